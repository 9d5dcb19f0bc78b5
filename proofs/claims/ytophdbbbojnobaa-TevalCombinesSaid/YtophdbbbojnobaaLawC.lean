/- TevalCombines: the walk. -/
import Derived.Test.YtophdbbbojnobaaProg
import Derived.Test.YtophdbbbojnobaaCall18
import Derived.Test.YtophdbbbojnobaaPlain18
import Derived.Test.YtophdbbbojnobaaDivLaw
namespace Go.Proofs.Ytophdbbbojnobaa
open Go.RowKit
set_option linter.unusedVariables false

noncomputable def lcC0 : Code := ((Try.f6.body.bind (regionOf 0)).getD .skip)
def lc0D : List (Option Tmp) := [some 3, some 4, some 5, some 6]
def lc0P (x : Ev) (e1 e2 : Ex)  : List (World → Value → Prop) := [(VarP 7 (ExA e1)), (VarP 7 (ExA e2)), (VarP 17 (Is (.agg x.cells.toArray))), (Is (.bool false))]
set_option maxHeartbeats 2000000 in
set_option maxRecDepth 100000 in
theorem lc0 (x : Ev) (hok : x.ok) (e1 e2 : Ex)   (Q : Exit → Act → World → Prop) (a0 : Act) (W : World) (hsz : a0.tmps.size = 303) (g0 : (ExA e1) W (a0.eval (.tmp 0))) (g1 : (ExA e2) W (a0.eval (.tmp 1))) (g2 : (Is (.agg x.cells.toArray)) W (a0.eval (.tmp 2)))
    (hQ : ∀ a1 W1, Ext W W1 → (∀ t, lc0D.contains (some t) = false → a1.eval (.tmp t) = a0.eval (.tmp t)) → a1.tmps.size = 303 → a1.defers = a0.defers → (VarP 7 (ExA e1)) W1 (a1.eval (.tmp 3)) → (VarP 7 (ExA e2)) W1 (a1.eval (.tmp 4)) → (VarP 17 (Is (.agg x.cells.toArray))) W1 (a1.eval (.tmp 5)) → Q .normal a1 W1) : lcC0.wp Try.prog Q a0 W := by
  conv => arg 2; whnf
  refine wp_region_sq 4 lc0D (lc0P x e1 e2 ) 303 (by kernel_rfl) hsz ?_ ?_ ?_
  · exact AllSt.cons (VarP.st ExA.st) (AllSt.cons (VarP.st ExA.st) (AllSt.cons (VarP.st (Is.st _)) (AllSt.cons (Is.st _) (AllSt.nil))))
  · simp only [List.take_succ_cons, List.take_zero]
    refine ObL.cons trivial (fun v ρ w hx hd S => op_box (n := 7) (p := ExA e1) rfl ExA.st (by obtain ⟨cs, h1, d, h2⟩ := (show (ExA e1) w (ρ (.tmp 0)) from (S.out rfl (ExA.st _ _ _ hx g0))); exact ⟨cs, h1, h2.len⟩) (S.out rfl (ExA.st _ _ _ hx g0))) ?_
    refine ObL.cons trivial (fun v ρ w hx hd S => op_box (n := 7) (p := ExA e2) rfl ExA.st (by obtain ⟨cs, h1, d, h2⟩ := (show (ExA e2) w (ρ (.tmp 1)) from (S.out rfl (ExA.st _ _ _ hx g1))); exact ⟨cs, h1, h2.len⟩) (S.out rfl (ExA.st _ _ _ hx g1))) ?_
    refine ObL.cons trivial (fun v ρ w hx hd S => op_box (n := 17) (p := Is (.agg x.cells.toArray)) rfl (Is.st _) ⟨_, (S.out rfl ((Is.st _) _ _ _ hx g2)), by simp [Ev.cells, hok.1]⟩ (S.out rfl ((Is.st _) _ _ _ hx g2))) ?_
    refine ObL.cons trivial (fun v ρ w hx hd S => op_move (p := Is (.bool false)) (.inr rfl) (S.c _)) ?_
    exact ObL.nil
  · intro v a1 w hx hPP S hs hdf
    refine wpList_nil ?_
    exact hQ a1 w hx S.o hs hdf (S.dep 0 rfl (hPP 0 (by decide))) (S.dep 1 rfl (hPP 1 (by decide))) (S.dep 2 rfl (hPP 2 (by decide)))

noncomputable def lcC1 : Code := ((Try.f6.body.bind (regionOf 1)).getD .skip)
def lc1D : List (Option Tmp) := [some 35, some 36]
def lc1P (x : Ev) (e1 e2 : Ex)  : List (World → Value → Prop) := [(Is (.bool true)), (Is (.bool false))]
set_option maxHeartbeats 2000000 in
set_option maxRecDepth 100000 in
theorem lc1 (x : Ev) (hok : x.ok) (e1 e2 : Ex)   (Q : Exit → Act → World → Prop) (a0 : Act) (W : World) (hsz : a0.tmps.size = 303) 
    (hQ : ∀ a1 W1, Ext W W1 → (∀ t, lc1D.contains (some t) = false → a1.eval (.tmp t) = a0.eval (.tmp t)) → a1.tmps.size = 303 → a1.defers = a0.defers → (Is (.bool false)) W1 (a1.eval (.tmp 36)) → Q .normal a1 W1) : lcC1.wp Try.prog Q a0 W := by
  conv => arg 2; whnf
  refine wp_region_sq 2 lc1D (lc1P x e1 e2 ) 303 (by kernel_rfl) hsz ?_ ?_ ?_
  · exact AllSt.cons (Is.st _) (AllSt.cons (Is.st _) (AllSt.nil))
  · simp only [List.take_succ_cons, List.take_zero]
    refine ObL.cons trivial (fun v ρ w hx hd S => op_sane rfl S) ?_
    refine ObL.cons trivial (fun v ρ w hx hd S => op_not rfl (S.dep 0 rfl (hd 0 rfl))) ?_
    exact ObL.nil
  · intro v a1 w hx hPP S hs hdf
    refine wpList_nil ?_
    exact hQ a1 w hx S.o hs hdf (S.dep 1 rfl (hPP 1 (by decide)))

noncomputable def lcC3 : Code := ((Try.f6.body.bind (regionOf 3)).getD .skip)
def lc3aD : List (Option Tmp) := [some 37, some 38, some 39, some 40, some 41, some 42, some 43, some 44, some 45, some 46, some 47, some 48, some 49, some 50, some 51, some 52, some 53, some 54]
def lc3aP (x : Ev) (e1 e2 : Ex)  : List (World → Value → Prop) := [(ExA e1), (Is (.bool false)), (Is (.bool true)), (Is (.bool true)), Any, Any, Any, (Is (.bool true)), (Is (.bool true)), Any, Any, Any, (Is (.bool true)), (Is (.bool true)), Any, Any, Any, (Is (.bool true))]
set_option maxHeartbeats 2000000 in
set_option maxRecDepth 100000 in
theorem lc3a (x : Ev) (hok : x.ok) (e1 e2 : Ex)  (hc0 : (fewF e1) = false) (Q : Exit → Act → World → Prop) (a0 : Act) (W : World) (hsz : a0.tmps.size = 303) (g3 : (VarP 7 (ExA e1)) W (a0.eval (.tmp 3)))
    (hQ : ∀ a1 W1, Ext W W1 → (∀ t, lc3aD.contains (some t) = false → a1.eval (.tmp t) = a0.eval (.tmp t)) → a1.tmps.size = 303 → a1.defers = a0.defers → (Is (.bool true)) W1 (a1.eval (.tmp 54)) → Q .normal a1 W1) : lcC3.wp Try.prog Q a0 W := by
  conv => arg 2; whnf
  refine wp_region_sq 18 lc3aD (lc3aP x e1 e2 ) 303 (by kernel_rfl) hsz ?_ ?_ ?_
  · exact AllSt.cons ExA.st (AllSt.cons (Is.st _) (AllSt.cons (Is.st _) (AllSt.cons (Is.st _) (AllSt.cons Any.st (AllSt.cons Any.st (AllSt.cons Any.st (AllSt.cons (Is.st _) (AllSt.cons (Is.st _) (AllSt.cons Any.st (AllSt.cons Any.st (AllSt.cons Any.st (AllSt.cons (Is.st _) (AllSt.cons (Is.st _) (AllSt.cons Any.st (AllSt.cons Any.st (AllSt.cons Any.st (AllSt.cons (Is.st _) (AllSt.nil))))))))))))))))))
  · simp only [List.take_succ_cons, List.take_zero]
    refine ObL.cons trivial (fun v ρ w hx hd S => op_loadV _ _ rfl _ Try.underlying26 rfl info_expr (S.out rfl ((VarP.st ExA.st) _ _ _ hx g3))) ?_
    refine ObL.cons trivial (fun v ρ w hx hd S => (op_few rfl S (S.dep 0 rfl (hd 0 rfl))).mono fun u w1 hu => ⟨hu.1, hu.2.trans (congrArg Value.bool hc0)⟩) ?_
    refine ObL.cons trivial (fun v ρ w hx hd S => op_not rfl (S.dep 1 rfl (hd 1 rfl))) ?_
    refine ObL.cons trivial (fun v ρ w hx hd S => op_move (p := Is (.bool true)) (.inl rfl) (S.dep 2 rfl (hd 2 rfl))) ?_
    refine ObL.skip ⟨rfl, fun w u h => h, fun _ => trivial⟩ ?_
    refine ObL.skip ⟨rfl, fun w u h => h, fun _ => trivial⟩ ?_
    refine ObL.skip ⟨rfl, fun w u h => h, fun _ => trivial⟩ ?_
    refine ObL.cons trivial (fun v ρ w hx hd S => op_pick (p := Is (.bool true)) true rfl (S.dep 3 rfl (hd 3 rfl)) (S.c _)) ?_
    refine ObL.cons trivial (fun v ρ w hx hd S => op_move (p := Is (.bool true)) (.inl rfl) (S.dep 7 rfl (hd 7 rfl))) ?_
    refine ObL.skip ⟨rfl, fun w u h => h, fun _ => trivial⟩ ?_
    refine ObL.skip ⟨rfl, fun w u h => h, fun _ => trivial⟩ ?_
    refine ObL.skip ⟨rfl, fun w u h => h, fun _ => trivial⟩ ?_
    refine ObL.cons trivial (fun v ρ w hx hd S => op_pick (p := Is (.bool true)) true rfl (S.dep 8 rfl (hd 8 rfl)) (S.c _)) ?_
    refine ObL.cons trivial (fun v ρ w hx hd S => op_move (p := Is (.bool true)) (.inl rfl) (S.dep 12 rfl (hd 12 rfl))) ?_
    refine ObL.skip ⟨rfl, fun w u h => h, fun _ => trivial⟩ ?_
    refine ObL.skip ⟨rfl, fun w u h => h, fun _ => trivial⟩ ?_
    refine ObL.skip ⟨rfl, fun w u h => h, fun _ => trivial⟩ ?_
    refine ObL.cons trivial (fun v ρ w hx hd S => op_pick (p := Is (.bool true)) true rfl (S.dep 13 rfl (hd 13 rfl)) (S.c _)) ?_
    exact ObL.nil
  · intro v a1 w hx hPP S hs hdf
    refine wpList_nil ?_
    exact hQ a1 w hx S.o hs hdf (S.dep 17 rfl (hPP 17 (by decide)))

noncomputable def lcC4 : Code := ((Try.f6.body.bind (regionOf 4)).getD .skip)
def lc4D : List (Option Tmp) := [some 6]
def lc4P (x : Ev) (e1 e2 : Ex)  : List (World → Value → Prop) := [(Is (.bool true))]
set_option maxHeartbeats 2000000 in
set_option maxRecDepth 100000 in
theorem lc4 (x : Ev) (hok : x.ok) (e1 e2 : Ex)   (Q : Exit → Act → World → Prop) (a0 : Act) (W : World) (hsz : a0.tmps.size = 303) 
    (hQ : ∀ a1 W1, Ext W W1 → (∀ t, lc4D.contains (some t) = false → a1.eval (.tmp t) = a0.eval (.tmp t)) → a1.tmps.size = 303 → a1.defers = a0.defers → (Is (.bool true)) W1 (a1.eval (.tmp 6)) → Q .normal a1 W1) : lcC4.wp Try.prog Q a0 W := by
  conv => arg 2; whnf
  refine wp_region_sq 1 lc4D (lc4P x e1 e2 ) 303 (by kernel_rfl) hsz ?_ ?_ ?_
  · exact AllSt.cons (Is.st _) (AllSt.nil)
  · simp only [List.take_succ_cons, List.take_zero]
    refine ObL.cons trivial (fun v ρ w hx hd S => op_move (p := Is (.bool true)) (.inr rfl) (S.c _)) ?_
    exact ObL.nil
  · intro v a1 w hx hPP S hs hdf
    refine wpList_nil ?_
    exact hQ a1 w hx S.o hs hdf (S.dep 0 rfl (hPP 0 (by decide)))

def lc3bD : List (Option Tmp) := [some 37, some 38, some 39, some 40, some 41, some 42, some 43, some 44, some 45, some 46, some 47, some 48, some 49, some 50, some 51, some 52, some 53, some 54]
def lc3bP (x : Ev) (e1 e2 : Ex)  : List (World → Value → Prop) := [(ExA e1), (Is (.bool true)), (Is (.bool false)), (Is (.bool false)), (ExA e2), (Is (.bool false)), (Is (.bool true)), (Is (.bool true)), (Is (.bool true)), Any, Any, Any, (Is (.bool true)), (Is (.bool true)), Any, Any, Any, (Is (.bool true))]
set_option maxHeartbeats 2000000 in
set_option maxRecDepth 100000 in
theorem lc3b (x : Ev) (hok : x.ok) (e1 e2 : Ex)  (hc0 : (fewF e1) = true) (hc1 : (fewF e2) = false) (Q : Exit → Act → World → Prop) (a0 : Act) (W : World) (hsz : a0.tmps.size = 303) (g3 : (VarP 7 (ExA e1)) W (a0.eval (.tmp 3))) (g4 : (VarP 7 (ExA e2)) W (a0.eval (.tmp 4)))
    (hQ : ∀ a1 W1, Ext W W1 → (∀ t, lc3bD.contains (some t) = false → a1.eval (.tmp t) = a0.eval (.tmp t)) → a1.tmps.size = 303 → a1.defers = a0.defers → (Is (.bool true)) W1 (a1.eval (.tmp 54)) → Q .normal a1 W1) : lcC3.wp Try.prog Q a0 W := by
  conv => arg 2; whnf
  refine wp_region_sq 18 lc3bD (lc3bP x e1 e2 ) 303 (by kernel_rfl) hsz ?_ ?_ ?_
  · exact AllSt.cons ExA.st (AllSt.cons (Is.st _) (AllSt.cons (Is.st _) (AllSt.cons (Is.st _) (AllSt.cons ExA.st (AllSt.cons (Is.st _) (AllSt.cons (Is.st _) (AllSt.cons (Is.st _) (AllSt.cons (Is.st _) (AllSt.cons Any.st (AllSt.cons Any.st (AllSt.cons Any.st (AllSt.cons (Is.st _) (AllSt.cons (Is.st _) (AllSt.cons Any.st (AllSt.cons Any.st (AllSt.cons Any.st (AllSt.cons (Is.st _) (AllSt.nil))))))))))))))))))
  · simp only [List.take_succ_cons, List.take_zero]
    refine ObL.cons trivial (fun v ρ w hx hd S => op_loadV _ _ rfl _ Try.underlying26 rfl info_expr (S.out rfl ((VarP.st ExA.st) _ _ _ hx g3))) ?_
    refine ObL.cons trivial (fun v ρ w hx hd S => (op_few rfl S (S.dep 0 rfl (hd 0 rfl))).mono fun u w1 hu => ⟨hu.1, hu.2.trans (congrArg Value.bool hc0)⟩) ?_
    refine ObL.cons trivial (fun v ρ w hx hd S => op_not rfl (S.dep 1 rfl (hd 1 rfl))) ?_
    refine ObL.cons trivial (fun v ρ w hx hd S => op_move (p := Is (.bool false)) (.inl rfl) (S.dep 2 rfl (hd 2 rfl))) ?_
    refine ObL.cons ⟨rfl, fun w u h => h⟩ (fun v ρ w hx hd S => op_loadV _ _ rfl _ Try.underlying26 rfl info_expr (S.out rfl ((VarP.st ExA.st) _ _ _ hx g4))) ?_
    refine ObL.cons ⟨rfl, fun w u h => h⟩ (fun v ρ w hx hd S => (op_few rfl S (S.dep 4 rfl (hd 4 rfl))).mono fun u w1 hu => ⟨hu.1, hu.2.trans (congrArg Value.bool hc1)⟩) ?_
    refine ObL.cons ⟨rfl, fun w u h => h⟩ (fun v ρ w hx hd S => op_not rfl (S.dep 5 rfl (hd 5 rfl))) ?_
    refine ObL.cons trivial (fun v ρ w hx hd S => op_pick (p := Is (.bool true)) false rfl (S.dep 3 rfl (hd 3 rfl)) (S.dep 6 rfl (hd 6 rfl))) ?_
    refine ObL.cons trivial (fun v ρ w hx hd S => op_move (p := Is (.bool true)) (.inl rfl) (S.dep 7 rfl (hd 7 rfl))) ?_
    refine ObL.skip ⟨rfl, fun w u h => h, fun _ => trivial⟩ ?_
    refine ObL.skip ⟨rfl, fun w u h => h, fun _ => trivial⟩ ?_
    refine ObL.skip ⟨rfl, fun w u h => h, fun _ => trivial⟩ ?_
    refine ObL.cons trivial (fun v ρ w hx hd S => op_pick (p := Is (.bool true)) true rfl (S.dep 8 rfl (hd 8 rfl)) (S.c _)) ?_
    refine ObL.cons trivial (fun v ρ w hx hd S => op_move (p := Is (.bool true)) (.inl rfl) (S.dep 12 rfl (hd 12 rfl))) ?_
    refine ObL.skip ⟨rfl, fun w u h => h, fun _ => trivial⟩ ?_
    refine ObL.skip ⟨rfl, fun w u h => h, fun _ => trivial⟩ ?_
    refine ObL.skip ⟨rfl, fun w u h => h, fun _ => trivial⟩ ?_
    refine ObL.cons trivial (fun v ρ w hx hd S => op_pick (p := Is (.bool true)) true rfl (S.dep 13 rfl (hd 13 rfl)) (S.c _)) ?_
    exact ObL.nil
  · intro v a1 w hx hPP S hs hdf
    refine wpList_nil ?_
    exact hQ a1 w hx S.o hs hdf (S.dep 17 rfl (hPP 17 (by decide)))

def lc3cD : List (Option Tmp) := [some 37, some 38, some 39, some 40, some 41, some 42, some 43, some 44, some 45, some 46, some 47, some 48, some 49, some 50, some 51, some 52, some 53, some 54]
def lc3cP (x : Ev) (e1 e2 : Ex)  : List (World → Value → Prop) := [(ExA e1), (Is (.bool true)), (Is (.bool false)), (Is (.bool false)), (ExA e2), (Is (.bool true)), (Is (.bool false)), (Is (.bool false)), (Is (.bool false)), (ExA e1), (Is (.bool false)), (Is (.bool true)), (Is (.bool true)), (Is (.bool true)), Any, Any, Any, (Is (.bool true))]
set_option maxHeartbeats 2000000 in
set_option maxRecDepth 100000 in
theorem lc3c (x : Ev) (hok : x.ok) (e1 e2 : Ex)  (hc0 : (fewF e1) = true) (hc1 : (fewF e2) = true) (hc2 : (formF 23 e1) = false) (Q : Exit → Act → World → Prop) (a0 : Act) (W : World) (hsz : a0.tmps.size = 303) (g3 : (VarP 7 (ExA e1)) W (a0.eval (.tmp 3))) (g4 : (VarP 7 (ExA e2)) W (a0.eval (.tmp 4)))
    (hQ : ∀ a1 W1, Ext W W1 → (∀ t, lc3cD.contains (some t) = false → a1.eval (.tmp t) = a0.eval (.tmp t)) → a1.tmps.size = 303 → a1.defers = a0.defers → (Is (.bool true)) W1 (a1.eval (.tmp 54)) → Q .normal a1 W1) : lcC3.wp Try.prog Q a0 W := by
  conv => arg 2; whnf
  refine wp_region_sq 18 lc3cD (lc3cP x e1 e2 ) 303 (by kernel_rfl) hsz ?_ ?_ ?_
  · exact AllSt.cons ExA.st (AllSt.cons (Is.st _) (AllSt.cons (Is.st _) (AllSt.cons (Is.st _) (AllSt.cons ExA.st (AllSt.cons (Is.st _) (AllSt.cons (Is.st _) (AllSt.cons (Is.st _) (AllSt.cons (Is.st _) (AllSt.cons ExA.st (AllSt.cons (Is.st _) (AllSt.cons (Is.st _) (AllSt.cons (Is.st _) (AllSt.cons (Is.st _) (AllSt.cons Any.st (AllSt.cons Any.st (AllSt.cons Any.st (AllSt.cons (Is.st _) (AllSt.nil))))))))))))))))))
  · simp only [List.take_succ_cons, List.take_zero]
    refine ObL.cons trivial (fun v ρ w hx hd S => op_loadV _ _ rfl _ Try.underlying26 rfl info_expr (S.out rfl ((VarP.st ExA.st) _ _ _ hx g3))) ?_
    refine ObL.cons trivial (fun v ρ w hx hd S => (op_few rfl S (S.dep 0 rfl (hd 0 rfl))).mono fun u w1 hu => ⟨hu.1, hu.2.trans (congrArg Value.bool hc0)⟩) ?_
    refine ObL.cons trivial (fun v ρ w hx hd S => op_not rfl (S.dep 1 rfl (hd 1 rfl))) ?_
    refine ObL.cons trivial (fun v ρ w hx hd S => op_move (p := Is (.bool false)) (.inl rfl) (S.dep 2 rfl (hd 2 rfl))) ?_
    refine ObL.cons ⟨rfl, fun w u h => h⟩ (fun v ρ w hx hd S => op_loadV _ _ rfl _ Try.underlying26 rfl info_expr (S.out rfl ((VarP.st ExA.st) _ _ _ hx g4))) ?_
    refine ObL.cons ⟨rfl, fun w u h => h⟩ (fun v ρ w hx hd S => (op_few rfl S (S.dep 4 rfl (hd 4 rfl))).mono fun u w1 hu => ⟨hu.1, hu.2.trans (congrArg Value.bool hc1)⟩) ?_
    refine ObL.cons ⟨rfl, fun w u h => h⟩ (fun v ρ w hx hd S => op_not rfl (S.dep 5 rfl (hd 5 rfl))) ?_
    refine ObL.cons trivial (fun v ρ w hx hd S => op_pick (p := Is (.bool false)) false rfl (S.dep 3 rfl (hd 3 rfl)) (S.dep 6 rfl (hd 6 rfl))) ?_
    refine ObL.cons trivial (fun v ρ w hx hd S => op_move (p := Is (.bool false)) (.inl rfl) (S.dep 7 rfl (hd 7 rfl))) ?_
    refine ObL.cons ⟨rfl, fun w u h => h⟩ (fun v ρ w hx hd S => op_loadV _ _ rfl _ Try.underlying26 rfl info_expr (S.out rfl ((VarP.st ExA.st) _ _ _ hx g3))) ?_
    refine ObL.cons ⟨rfl, fun w u h => h⟩ (fun v ρ w hx hd S => (op_formed (dn := 23) rfl (by decide) rfl S (S.dep 9 rfl (hd 9 rfl))).mono fun u w1 hu => ⟨hu.1, hu.2.trans (congrArg Value.bool hc2)⟩) ?_
    refine ObL.cons ⟨rfl, fun w u h => h⟩ (fun v ρ w hx hd S => op_not rfl (S.dep 10 rfl (hd 10 rfl))) ?_
    refine ObL.cons trivial (fun v ρ w hx hd S => op_pick (p := Is (.bool true)) false rfl (S.dep 8 rfl (hd 8 rfl)) (S.dep 11 rfl (hd 11 rfl))) ?_
    refine ObL.cons trivial (fun v ρ w hx hd S => op_move (p := Is (.bool true)) (.inl rfl) (S.dep 12 rfl (hd 12 rfl))) ?_
    refine ObL.skip ⟨rfl, fun w u h => h, fun _ => trivial⟩ ?_
    refine ObL.skip ⟨rfl, fun w u h => h, fun _ => trivial⟩ ?_
    refine ObL.skip ⟨rfl, fun w u h => h, fun _ => trivial⟩ ?_
    refine ObL.cons trivial (fun v ρ w hx hd S => op_pick (p := Is (.bool true)) true rfl (S.dep 13 rfl (hd 13 rfl)) (S.c _)) ?_
    exact ObL.nil
  · intro v a1 w hx hPP S hs hdf
    refine wpList_nil ?_
    exact hQ a1 w hx S.o hs hdf (S.dep 17 rfl (hPP 17 (by decide)))

def lc3dD : List (Option Tmp) := [some 37, some 38, some 39, some 40, some 41, some 42, some 43, some 44, some 45, some 46, some 47, some 48, some 49, some 50, some 51, some 52, some 53, some 54]
def lc3dP (x : Ev) (e1 e2 : Ex)  : List (World → Value → Prop) := [(ExA e1), (Is (.bool true)), (Is (.bool false)), (Is (.bool false)), (ExA e2), (Is (.bool true)), (Is (.bool false)), (Is (.bool false)), (Is (.bool false)), (ExA e1), (Is (.bool true)), (Is (.bool false)), (Is (.bool false)), (Is (.bool false)), (ExA e2), (Is (.bool false)), (Is (.bool true)), (Is (.bool true))]
set_option maxHeartbeats 2000000 in
set_option maxRecDepth 100000 in
theorem lc3d (x : Ev) (hok : x.ok) (e1 e2 : Ex)  (hc0 : (fewF e1) = true) (hc1 : (fewF e2) = true) (hc2 : (formF 23 e1) = true) (hc3 : (formF 23 e2) = false) (Q : Exit → Act → World → Prop) (a0 : Act) (W : World) (hsz : a0.tmps.size = 303) (g3 : (VarP 7 (ExA e1)) W (a0.eval (.tmp 3))) (g4 : (VarP 7 (ExA e2)) W (a0.eval (.tmp 4)))
    (hQ : ∀ a1 W1, Ext W W1 → (∀ t, lc3dD.contains (some t) = false → a1.eval (.tmp t) = a0.eval (.tmp t)) → a1.tmps.size = 303 → a1.defers = a0.defers → (Is (.bool true)) W1 (a1.eval (.tmp 54)) → Q .normal a1 W1) : lcC3.wp Try.prog Q a0 W := by
  conv => arg 2; whnf
  refine wp_region_sq 18 lc3dD (lc3dP x e1 e2 ) 303 (by kernel_rfl) hsz ?_ ?_ ?_
  · exact AllSt.cons ExA.st (AllSt.cons (Is.st _) (AllSt.cons (Is.st _) (AllSt.cons (Is.st _) (AllSt.cons ExA.st (AllSt.cons (Is.st _) (AllSt.cons (Is.st _) (AllSt.cons (Is.st _) (AllSt.cons (Is.st _) (AllSt.cons ExA.st (AllSt.cons (Is.st _) (AllSt.cons (Is.st _) (AllSt.cons (Is.st _) (AllSt.cons (Is.st _) (AllSt.cons ExA.st (AllSt.cons (Is.st _) (AllSt.cons (Is.st _) (AllSt.cons (Is.st _) (AllSt.nil))))))))))))))))))
  · simp only [List.take_succ_cons, List.take_zero]
    refine ObL.cons trivial (fun v ρ w hx hd S => op_loadV _ _ rfl _ Try.underlying26 rfl info_expr (S.out rfl ((VarP.st ExA.st) _ _ _ hx g3))) ?_
    refine ObL.cons trivial (fun v ρ w hx hd S => (op_few rfl S (S.dep 0 rfl (hd 0 rfl))).mono fun u w1 hu => ⟨hu.1, hu.2.trans (congrArg Value.bool hc0)⟩) ?_
    refine ObL.cons trivial (fun v ρ w hx hd S => op_not rfl (S.dep 1 rfl (hd 1 rfl))) ?_
    refine ObL.cons trivial (fun v ρ w hx hd S => op_move (p := Is (.bool false)) (.inl rfl) (S.dep 2 rfl (hd 2 rfl))) ?_
    refine ObL.cons ⟨rfl, fun w u h => h⟩ (fun v ρ w hx hd S => op_loadV _ _ rfl _ Try.underlying26 rfl info_expr (S.out rfl ((VarP.st ExA.st) _ _ _ hx g4))) ?_
    refine ObL.cons ⟨rfl, fun w u h => h⟩ (fun v ρ w hx hd S => (op_few rfl S (S.dep 4 rfl (hd 4 rfl))).mono fun u w1 hu => ⟨hu.1, hu.2.trans (congrArg Value.bool hc1)⟩) ?_
    refine ObL.cons ⟨rfl, fun w u h => h⟩ (fun v ρ w hx hd S => op_not rfl (S.dep 5 rfl (hd 5 rfl))) ?_
    refine ObL.cons trivial (fun v ρ w hx hd S => op_pick (p := Is (.bool false)) false rfl (S.dep 3 rfl (hd 3 rfl)) (S.dep 6 rfl (hd 6 rfl))) ?_
    refine ObL.cons trivial (fun v ρ w hx hd S => op_move (p := Is (.bool false)) (.inl rfl) (S.dep 7 rfl (hd 7 rfl))) ?_
    refine ObL.cons ⟨rfl, fun w u h => h⟩ (fun v ρ w hx hd S => op_loadV _ _ rfl _ Try.underlying26 rfl info_expr (S.out rfl ((VarP.st ExA.st) _ _ _ hx g3))) ?_
    refine ObL.cons ⟨rfl, fun w u h => h⟩ (fun v ρ w hx hd S => (op_formed (dn := 23) rfl (by decide) rfl S (S.dep 9 rfl (hd 9 rfl))).mono fun u w1 hu => ⟨hu.1, hu.2.trans (congrArg Value.bool hc2)⟩) ?_
    refine ObL.cons ⟨rfl, fun w u h => h⟩ (fun v ρ w hx hd S => op_not rfl (S.dep 10 rfl (hd 10 rfl))) ?_
    refine ObL.cons trivial (fun v ρ w hx hd S => op_pick (p := Is (.bool false)) false rfl (S.dep 8 rfl (hd 8 rfl)) (S.dep 11 rfl (hd 11 rfl))) ?_
    refine ObL.cons trivial (fun v ρ w hx hd S => op_move (p := Is (.bool false)) (.inl rfl) (S.dep 12 rfl (hd 12 rfl))) ?_
    refine ObL.cons ⟨rfl, fun w u h => h⟩ (fun v ρ w hx hd S => op_loadV _ _ rfl _ Try.underlying26 rfl info_expr (S.out rfl ((VarP.st ExA.st) _ _ _ hx g4))) ?_
    refine ObL.cons ⟨rfl, fun w u h => h⟩ (fun v ρ w hx hd S => (op_formed (dn := 23) rfl (by decide) rfl S (S.dep 14 rfl (hd 14 rfl))).mono fun u w1 hu => ⟨hu.1, hu.2.trans (congrArg Value.bool hc3)⟩) ?_
    refine ObL.cons ⟨rfl, fun w u h => h⟩ (fun v ρ w hx hd S => op_not rfl (S.dep 15 rfl (hd 15 rfl))) ?_
    refine ObL.cons trivial (fun v ρ w hx hd S => op_pick (p := Is (.bool true)) false rfl (S.dep 13 rfl (hd 13 rfl)) (S.dep 16 rfl (hd 16 rfl))) ?_
    exact ObL.nil
  · intro v a1 w hx hPP S hs hdf
    refine wpList_nil ?_
    exact hQ a1 w hx S.o hs hdf (S.dep 17 rfl (hPP 17 (by decide)))

def lc3eD : List (Option Tmp) := [some 37, some 38, some 39, some 40, some 41, some 42, some 43, some 44, some 45, some 46, some 47, some 48, some 49, some 50, some 51, some 52, some 53, some 54]
def lc3eP (x : Ev) (e1 e2 : Ex)  : List (World → Value → Prop) := [(ExA e1), (Is (.bool true)), (Is (.bool false)), (Is (.bool false)), (ExA e2), (Is (.bool true)), (Is (.bool false)), (Is (.bool false)), (Is (.bool false)), (ExA e1), (Is (.bool true)), (Is (.bool false)), (Is (.bool false)), (Is (.bool false)), (ExA e2), (Is (.bool true)), (Is (.bool false)), (Is (.bool false))]
set_option maxHeartbeats 2000000 in
set_option maxRecDepth 100000 in
theorem lc3e (x : Ev) (hok : x.ok) (e1 e2 : Ex)  (hc0 : (fewF e1) = true) (hc1 : (fewF e2) = true) (hc2 : (formF 23 e1) = true) (hc3 : (formF 23 e2) = true) (Q : Exit → Act → World → Prop) (a0 : Act) (W : World) (hsz : a0.tmps.size = 303) (g3 : (VarP 7 (ExA e1)) W (a0.eval (.tmp 3))) (g4 : (VarP 7 (ExA e2)) W (a0.eval (.tmp 4)))
    (hQ : ∀ a1 W1, Ext W W1 → (∀ t, lc3eD.contains (some t) = false → a1.eval (.tmp t) = a0.eval (.tmp t)) → a1.tmps.size = 303 → a1.defers = a0.defers → (Is (.bool false)) W1 (a1.eval (.tmp 54)) → Q .normal a1 W1) : lcC3.wp Try.prog Q a0 W := by
  conv => arg 2; whnf
  refine wp_region_sq 18 lc3eD (lc3eP x e1 e2 ) 303 (by kernel_rfl) hsz ?_ ?_ ?_
  · exact AllSt.cons ExA.st (AllSt.cons (Is.st _) (AllSt.cons (Is.st _) (AllSt.cons (Is.st _) (AllSt.cons ExA.st (AllSt.cons (Is.st _) (AllSt.cons (Is.st _) (AllSt.cons (Is.st _) (AllSt.cons (Is.st _) (AllSt.cons ExA.st (AllSt.cons (Is.st _) (AllSt.cons (Is.st _) (AllSt.cons (Is.st _) (AllSt.cons (Is.st _) (AllSt.cons ExA.st (AllSt.cons (Is.st _) (AllSt.cons (Is.st _) (AllSt.cons (Is.st _) (AllSt.nil))))))))))))))))))
  · simp only [List.take_succ_cons, List.take_zero]
    refine ObL.cons trivial (fun v ρ w hx hd S => op_loadV _ _ rfl _ Try.underlying26 rfl info_expr (S.out rfl ((VarP.st ExA.st) _ _ _ hx g3))) ?_
    refine ObL.cons trivial (fun v ρ w hx hd S => (op_few rfl S (S.dep 0 rfl (hd 0 rfl))).mono fun u w1 hu => ⟨hu.1, hu.2.trans (congrArg Value.bool hc0)⟩) ?_
    refine ObL.cons trivial (fun v ρ w hx hd S => op_not rfl (S.dep 1 rfl (hd 1 rfl))) ?_
    refine ObL.cons trivial (fun v ρ w hx hd S => op_move (p := Is (.bool false)) (.inl rfl) (S.dep 2 rfl (hd 2 rfl))) ?_
    refine ObL.cons ⟨rfl, fun w u h => h⟩ (fun v ρ w hx hd S => op_loadV _ _ rfl _ Try.underlying26 rfl info_expr (S.out rfl ((VarP.st ExA.st) _ _ _ hx g4))) ?_
    refine ObL.cons ⟨rfl, fun w u h => h⟩ (fun v ρ w hx hd S => (op_few rfl S (S.dep 4 rfl (hd 4 rfl))).mono fun u w1 hu => ⟨hu.1, hu.2.trans (congrArg Value.bool hc1)⟩) ?_
    refine ObL.cons ⟨rfl, fun w u h => h⟩ (fun v ρ w hx hd S => op_not rfl (S.dep 5 rfl (hd 5 rfl))) ?_
    refine ObL.cons trivial (fun v ρ w hx hd S => op_pick (p := Is (.bool false)) false rfl (S.dep 3 rfl (hd 3 rfl)) (S.dep 6 rfl (hd 6 rfl))) ?_
    refine ObL.cons trivial (fun v ρ w hx hd S => op_move (p := Is (.bool false)) (.inl rfl) (S.dep 7 rfl (hd 7 rfl))) ?_
    refine ObL.cons ⟨rfl, fun w u h => h⟩ (fun v ρ w hx hd S => op_loadV _ _ rfl _ Try.underlying26 rfl info_expr (S.out rfl ((VarP.st ExA.st) _ _ _ hx g3))) ?_
    refine ObL.cons ⟨rfl, fun w u h => h⟩ (fun v ρ w hx hd S => (op_formed (dn := 23) rfl (by decide) rfl S (S.dep 9 rfl (hd 9 rfl))).mono fun u w1 hu => ⟨hu.1, hu.2.trans (congrArg Value.bool hc2)⟩) ?_
    refine ObL.cons ⟨rfl, fun w u h => h⟩ (fun v ρ w hx hd S => op_not rfl (S.dep 10 rfl (hd 10 rfl))) ?_
    refine ObL.cons trivial (fun v ρ w hx hd S => op_pick (p := Is (.bool false)) false rfl (S.dep 8 rfl (hd 8 rfl)) (S.dep 11 rfl (hd 11 rfl))) ?_
    refine ObL.cons trivial (fun v ρ w hx hd S => op_move (p := Is (.bool false)) (.inl rfl) (S.dep 12 rfl (hd 12 rfl))) ?_
    refine ObL.cons ⟨rfl, fun w u h => h⟩ (fun v ρ w hx hd S => op_loadV _ _ rfl _ Try.underlying26 rfl info_expr (S.out rfl ((VarP.st ExA.st) _ _ _ hx g4))) ?_
    refine ObL.cons ⟨rfl, fun w u h => h⟩ (fun v ρ w hx hd S => (op_formed (dn := 23) rfl (by decide) rfl S (S.dep 14 rfl (hd 14 rfl))).mono fun u w1 hu => ⟨hu.1, hu.2.trans (congrArg Value.bool hc3)⟩) ?_
    refine ObL.cons ⟨rfl, fun w u h => h⟩ (fun v ρ w hx hd S => op_not rfl (S.dep 15 rfl (hd 15 rfl))) ?_
    refine ObL.cons trivial (fun v ρ w hx hd S => op_pick (p := Is (.bool false)) false rfl (S.dep 13 rfl (hd 13 rfl)) (S.dep 16 rfl (hd 16 rfl))) ?_
    exact ObL.nil
  · intro v a1 w hx hPP S hs hdf
    refine wpList_nil ?_
    exact hQ a1 w hx S.o hs hdf (S.dep 17 rfl (hPP 17 (by decide)))

noncomputable def lcC5 : Code := ((Try.f6.body.bind (regionOf 5)).getD .skip)
def lc5D : List (Option Tmp) := [some 56, some 57, some 58, some 55, some 59, some 60, some 7, some 8]
def lc5P (x : Ev) (e1 e2 : Ex)  : List (World → Value → Prop) := [(ExA e1), (Is (.agg x.cells.toArray)), (Is (.tuple #[.int .i64 ((EvalF e1 x).1), .int .i64 ((EvalF e1 x).2)])), (Is (.tuple #[.int .i64 ((EvalF e1 x).1), .int .i64 ((EvalF e1 x).2)])), (Is (.int .i64 ((EvalF e1 x).1))), (Is (.int .i64 ((EvalF e1 x).2))), (Is (.int .i64 ((EvalF e1 x).1))), (Is (.int .i64 ((EvalF e1 x).2)))]
set_option maxHeartbeats 2000000 in
set_option maxRecDepth 100000 in
theorem lc5 (x : Ev) (hok : x.ok) (e1 e2 : Ex)   (Q : Exit → Act → World → Prop) (a0 : Act) (W : World) (hsz : a0.tmps.size = 303) (g3 : (VarP 7 (ExA e1)) W (a0.eval (.tmp 3))) (g5 : (VarP 17 (Is (.agg x.cells.toArray))) W (a0.eval (.tmp 5)))
    (hQ : ∀ a1 W1, Ext W W1 → (∀ t, lc5D.contains (some t) = false → a1.eval (.tmp t) = a0.eval (.tmp t)) → a1.tmps.size = 303 → a1.defers = a0.defers → (Is (.int .i64 ((EvalF e1 x).1))) W1 (a1.eval (.tmp 7)) → (Is (.int .i64 ((EvalF e1 x).2))) W1 (a1.eval (.tmp 8)) → Q .normal a1 W1) : lcC5.wp Try.prog Q a0 W := by
  conv => arg 2; whnf
  refine wp_region_sq 8 lc5D (lc5P x e1 e2 ) 303 (by kernel_rfl) hsz ?_ ?_ ?_
  · exact AllSt.cons ExA.st (AllSt.cons (Is.st _) (AllSt.cons (Is.st _) (AllSt.cons (Is.st _) (AllSt.cons (Is.st _) (AllSt.cons (Is.st _) (AllSt.cons (Is.st _) (AllSt.cons (Is.st _) (AllSt.nil))))))))
  · simp only [List.take_succ_cons, List.take_zero]
    refine ObL.cons trivial (fun v ρ w hx hd S => op_loadV _ _ rfl _ Try.underlying26 rfl info_expr (S.out rfl ((VarP.st ExA.st) _ _ _ hx g3))) ?_
    refine ObL.cons trivial (fun v ρ w hx hd S => op_loadV _ _ rfl _ Try.underlying29 rfl info_env (S.out rfl ((VarP.st (Is.st _)) _ _ _ hx g5))) ?_
    refine ObL.cons trivial (fun v ρ w hx hd S => op_evalT x hok rfl S (S.dep 0 rfl (hd 0 rfl)) (S.dep 1 rfl (hd 1 rfl))) ?_
    refine ObL.cons trivial (fun v ρ w hx hd S => op_move (p := Is (.tuple #[.int .i64 ((EvalF e1 x).1), .int .i64 ((EvalF e1 x).2)])) (.inl rfl) (S.dep 2 rfl (hd 2 rfl))) ?_
    refine ObL.cons trivial (fun v ρ w hx hd S => op_extract rfl (S.dep 3 rfl (hd 3 rfl)) rfl) ?_
    refine ObL.cons trivial (fun v ρ w hx hd S => op_extract rfl (S.dep 3 rfl (hd 3 rfl)) rfl) ?_
    refine ObL.cons trivial (fun v ρ w hx hd S => op_move (p := Is (.int .i64 ((EvalF e1 x).1))) (.inr rfl) (S.dep 4 rfl (hd 4 rfl))) ?_
    refine ObL.cons trivial (fun v ρ w hx hd S => op_move (p := Is (.int .i64 ((EvalF e1 x).2))) (.inr rfl) (S.dep 5 rfl (hd 5 rfl))) ?_
    exact ObL.nil
  · intro v a1 w hx hPP S hs hdf
    refine wpList_nil ?_
    exact hQ a1 w hx S.o hs hdf (S.dep 6 rfl (hPP 6 (by decide))) (S.dep 7 rfl (hPP 7 (by decide)))

noncomputable def lcC6 : Code := ((Try.f6.body.bind (regionOf 6)).getD .skip)
def lc6D : List (Option Tmp) := [some 62, some 63, some 64, some 61, some 65, some 66, some 9, some 10]
def lc6P (x : Ev) (e1 e2 : Ex)  : List (World → Value → Prop) := [(ExA e2), (Is (.agg x.cells.toArray)), (Is (.tuple #[.int .i64 ((EvalF e2 x).1), .int .i64 ((EvalF e2 x).2)])), (Is (.tuple #[.int .i64 ((EvalF e2 x).1), .int .i64 ((EvalF e2 x).2)])), (Is (.int .i64 ((EvalF e2 x).1))), (Is (.int .i64 ((EvalF e2 x).2))), (Is (.int .i64 ((EvalF e2 x).1))), (Is (.int .i64 ((EvalF e2 x).2)))]
set_option maxHeartbeats 2000000 in
set_option maxRecDepth 100000 in
theorem lc6 (x : Ev) (hok : x.ok) (e1 e2 : Ex)   (Q : Exit → Act → World → Prop) (a0 : Act) (W : World) (hsz : a0.tmps.size = 303) (g4 : (VarP 7 (ExA e2)) W (a0.eval (.tmp 4))) (g5 : (VarP 17 (Is (.agg x.cells.toArray))) W (a0.eval (.tmp 5)))
    (hQ : ∀ a1 W1, Ext W W1 → (∀ t, lc6D.contains (some t) = false → a1.eval (.tmp t) = a0.eval (.tmp t)) → a1.tmps.size = 303 → a1.defers = a0.defers → (Is (.int .i64 ((EvalF e2 x).1))) W1 (a1.eval (.tmp 9)) → (Is (.int .i64 ((EvalF e2 x).2))) W1 (a1.eval (.tmp 10)) → Q .normal a1 W1) : lcC6.wp Try.prog Q a0 W := by
  conv => arg 2; whnf
  refine wp_region_sq 8 lc6D (lc6P x e1 e2 ) 303 (by kernel_rfl) hsz ?_ ?_ ?_
  · exact AllSt.cons ExA.st (AllSt.cons (Is.st _) (AllSt.cons (Is.st _) (AllSt.cons (Is.st _) (AllSt.cons (Is.st _) (AllSt.cons (Is.st _) (AllSt.cons (Is.st _) (AllSt.cons (Is.st _) (AllSt.nil))))))))
  · simp only [List.take_succ_cons, List.take_zero]
    refine ObL.cons trivial (fun v ρ w hx hd S => op_loadV _ _ rfl _ Try.underlying26 rfl info_expr (S.out rfl ((VarP.st ExA.st) _ _ _ hx g4))) ?_
    refine ObL.cons trivial (fun v ρ w hx hd S => op_loadV _ _ rfl _ Try.underlying29 rfl info_env (S.out rfl ((VarP.st (Is.st _)) _ _ _ hx g5))) ?_
    refine ObL.cons trivial (fun v ρ w hx hd S => op_evalT x hok rfl S (S.dep 0 rfl (hd 0 rfl)) (S.dep 1 rfl (hd 1 rfl))) ?_
    refine ObL.cons trivial (fun v ρ w hx hd S => op_move (p := Is (.tuple #[.int .i64 ((EvalF e2 x).1), .int .i64 ((EvalF e2 x).2)])) (.inl rfl) (S.dep 2 rfl (hd 2 rfl))) ?_
    refine ObL.cons trivial (fun v ρ w hx hd S => op_extract rfl (S.dep 3 rfl (hd 3 rfl)) rfl) ?_
    refine ObL.cons trivial (fun v ρ w hx hd S => op_extract rfl (S.dep 3 rfl (hd 3 rfl)) rfl) ?_
    refine ObL.cons trivial (fun v ρ w hx hd S => op_move (p := Is (.int .i64 ((EvalF e2 x).1))) (.inr rfl) (S.dep 4 rfl (hd 4 rfl))) ?_
    refine ObL.cons trivial (fun v ρ w hx hd S => op_move (p := Is (.int .i64 ((EvalF e2 x).2))) (.inr rfl) (S.dep 5 rfl (hd 5 rfl))) ?_
    exact ObL.nil
  · intro v a1 w hx hPP S hs hdf
    refine wpList_nil ?_
    exact hQ a1 w hx S.o hs hdf (S.dep 6 rfl (hPP 6 (by decide))) (S.dep 7 rfl (hPP 7 (by decide)))

noncomputable def lcC7 : Code := ((Try.f6.body.bind (regionOf 7)).getD .skip)
def lc7aD : List (Option Tmp) := [some 67, some 68]
def lc7aP (x : Ev) (e1 e2 : Ex)  : List (World → Value → Prop) := [(Is (.int .i64 ((EvalF e1 x).2))), (Is (.bool false))]
set_option maxHeartbeats 2000000 in
set_option maxRecDepth 100000 in
theorem lc7a (x : Ev) (hok : x.ok) (e1 e2 : Ex)  (hne : ¬ (EvalF e1 x).2 = 0) (Q : Exit → Act → World → Prop) (a0 : Act) (W : World) (hsz : a0.tmps.size = 303) (g8 : (Is (.int .i64 ((EvalF e1 x).2))) W (a0.eval (.tmp 8)))
    (hQ : ∀ a1 W1, Ext W W1 → (∀ t, lc7aD.contains (some t) = false → a1.eval (.tmp t) = a0.eval (.tmp t)) → a1.tmps.size = 303 → a1.defers = a0.defers → (Is (.bool false)) W1 (a1.eval (.tmp 68)) → Q .normal a1 W1) : lcC7.wp Try.prog Q a0 W := by
  conv => arg 2; whnf
  refine wp_region_sq 2 lc7aD (lc7aP x e1 e2 ) 303 (by kernel_rfl) hsz ?_ ?_ ?_
  · exact AllSt.cons (Is.st _) (AllSt.cons (Is.st _) (AllSt.nil))
  · simp only [List.take_succ_cons, List.take_zero]
    refine ObL.cons trivial (fun v ρ w hx hd S => op_move (p := Is (.int .i64 ((EvalF e1 x).2))) (.inl rfl) (S.out rfl ((Is.st _) _ _ _ hx g8))) ?_
    refine ObL.cons trivial (fun v ρ w hx hd S => (op_eql rfl (S.dep 0 rfl (hd 0 rfl)) (S.c _)).mono fun u w1 hu => ⟨hu.1, hu.2.trans (congrArg Value.bool (by simpa using hne))⟩) ?_
    exact ObL.nil
  · intro v a1 w hx hPP S hs hdf
    refine wpList_nil ?_
    exact hQ a1 w hx S.o hs hdf (S.dep 1 rfl (hPP 1 (by decide)))

noncomputable def lcC9 : Code := ((Try.f6.body.bind (regionOf 9)).getD .skip)
def lc9aD : List (Option Tmp) := [some 70, some 71]
def lc9aP (x : Ev) (e1 e2 : Ex)  : List (World → Value → Prop) := [(Is (.int .i64 ((EvalF e1 x).2))), (Is (.bool true))]
set_option maxHeartbeats 2000000 in
set_option maxRecDepth 100000 in
theorem lc9a (x : Ev) (hok : x.ok) (e1 e2 : Ex)  (hne : ¬ (EvalF e1 x).2 = 0) (Q : Exit → Act → World → Prop) (a0 : Act) (W : World) (hsz : a0.tmps.size = 303) (g8 : (Is (.int .i64 ((EvalF e1 x).2))) W (a0.eval (.tmp 8)))
    (hQ : ∀ a1 W1, Ext W W1 → (∀ t, lc9aD.contains (some t) = false → a1.eval (.tmp t) = a0.eval (.tmp t)) → a1.tmps.size = 303 → a1.defers = a0.defers → (Is (.bool true)) W1 (a1.eval (.tmp 71)) → Q .normal a1 W1) : lcC9.wp Try.prog Q a0 W := by
  conv => arg 2; whnf
  refine wp_region_sq 2 lc9aD (lc9aP x e1 e2 ) 303 (by kernel_rfl) hsz ?_ ?_ ?_
  · exact AllSt.cons (Is.st _) (AllSt.cons (Is.st _) (AllSt.nil))
  · simp only [List.take_succ_cons, List.take_zero]
    refine ObL.cons trivial (fun v ρ w hx hd S => op_move (p := Is (.int .i64 ((EvalF e1 x).2))) (.inl rfl) (S.out rfl ((Is.st _) _ _ _ hx g8))) ?_
    refine ObL.cons trivial (fun v ρ w hx hd S => (op_neq rfl (S.dep 0 rfl (hd 0 rfl)) (S.c _)).mono fun u w1 hu => ⟨hu.1, hu.2.trans (congrArg Value.bool (by simpa using hne))⟩) ?_
    exact ObL.nil
  · intro v a1 w hx hPP S hs hdf
    refine wpList_nil ?_
    exact hQ a1 w hx S.o hs hdf (S.dep 1 rfl (hPP 1 (by decide)))

noncomputable def lcC10 : Code := ((Try.f6.body.bind (regionOf 10)).getD .skip)
def lc10aD : List (Option Tmp) := [some 73, some 74, some 75, some 76, some 77, some 72, some 78, some 79, some 11, some 12]
def lc10aP (x : Ev) (e1 e2 : Ex)  : List (World → Value → Prop) := [(ExA e1), (ExA e2), (ExA (two 3 e1 e2)), (Is (.agg x.cells.toArray)), (Is (.tuple #[.int .i64 ((EvalF (two 3 e1 e2) x).1), .int .i64 ((EvalF (two 3 e1 e2) x).2)])), (Is (.tuple #[.int .i64 ((EvalF (two 3 e1 e2) x).1), .int .i64 ((EvalF (two 3 e1 e2) x).2)])), (Is (.int .i64 ((EvalF (two 3 e1 e2) x).1))), (Is (.int .i64 ((EvalF (two 3 e1 e2) x).2))), (Is (.int .i64 ((EvalF (two 3 e1 e2) x).1))), (Is (.int .i64 ((EvalF (two 3 e1 e2) x).2)))]
set_option maxHeartbeats 2000000 in
set_option maxRecDepth 100000 in
theorem lc10a (x : Ev) (hok : x.ok) (e1 e2 : Ex)   (Q : Exit → Act → World → Prop) (a0 : Act) (W : World) (hsz : a0.tmps.size = 303) (g3 : (VarP 7 (ExA e1)) W (a0.eval (.tmp 3))) (g4 : (VarP 7 (ExA e2)) W (a0.eval (.tmp 4))) (g5 : (VarP 17 (Is (.agg x.cells.toArray))) W (a0.eval (.tmp 5)))
    (hQ : ∀ a1 W1, Ext W W1 → (∀ t, lc10aD.contains (some t) = false → a1.eval (.tmp t) = a0.eval (.tmp t)) → a1.tmps.size = 303 → a1.defers = a0.defers → (Is (.int .i64 ((EvalF (two 3 e1 e2) x).1))) W1 (a1.eval (.tmp 11)) → (Is (.int .i64 ((EvalF (two 3 e1 e2) x).2))) W1 (a1.eval (.tmp 12)) → Q .normal a1 W1) : lcC10.wp Try.prog Q a0 W := by
  conv => arg 2; whnf
  refine wp_region_st 10 lc10aD (lc10aP x e1 e2 ) 303 (by kernel_rfl) (by kernel_rfl) hsz ?_ ?_ ?_
  · exact AllSt.cons ExA.st (AllSt.cons ExA.st (AllSt.cons ExA.st (AllSt.cons (Is.st _) (AllSt.cons (Is.st _) (AllSt.cons (Is.st _) (AllSt.cons (Is.st _) (AllSt.cons (Is.st _) (AllSt.cons (Is.st _) (AllSt.cons (Is.st _) (AllSt.nil))))))))))
  · simp only [List.take_succ_cons, List.take_zero]
    refine ObL.cons trivial (fun v ρ w hx hd S => op_loadV _ _ rfl _ Try.underlying26 rfl info_expr (S.out rfl ((VarP.st ExA.st) _ _ _ hx g3))) ?_
    refine ObL.cons trivial (fun v ρ w hx hd S => op_loadV _ _ rfl _ Try.underlying26 rfl info_expr (S.out rfl ((VarP.st ExA.st) _ _ _ hx g4))) ?_
    refine ObL.cons trivial (fun v ρ w hx hd S => op_pairA 3 (by constructor <;> decide) rfl S (S.dep 0 rfl (hd 0 rfl)) (S.dep 1 rfl (hd 1 rfl))) ?_
    refine ObL.cons trivial (fun v ρ w hx hd S => op_loadV _ _ rfl _ Try.underlying29 rfl info_env (S.out rfl ((VarP.st (Is.st _)) _ _ _ hx g5))) ?_
    refine ObL.cons trivial (fun v ρ w hx hd S => op_evalT x hok rfl S (S.dep 2 rfl (hd 2 rfl)) (S.dep 3 rfl (hd 3 rfl))) ?_
    refine ObL.cons trivial (fun v ρ w hx hd S => op_move (p := Is (.tuple #[.int .i64 ((EvalF (two 3 e1 e2) x).1), .int .i64 ((EvalF (two 3 e1 e2) x).2)])) (.inl rfl) (S.dep 4 rfl (hd 4 rfl))) ?_
    refine ObL.cons trivial (fun v ρ w hx hd S => op_extract rfl (S.dep 5 rfl (hd 5 rfl)) rfl) ?_
    refine ObL.cons trivial (fun v ρ w hx hd S => op_extract rfl (S.dep 5 rfl (hd 5 rfl)) rfl) ?_
    refine ObL.cons trivial (fun v ρ w hx hd S => op_move (p := Is (.int .i64 ((EvalF (two 3 e1 e2) x).1))) (.inr rfl) (S.dep 6 rfl (hd 6 rfl))) ?_
    refine ObL.cons trivial (fun v ρ w hx hd S => op_move (p := Is (.int .i64 ((EvalF (two 3 e1 e2) x).2))) (.inr rfl) (S.dep 7 rfl (hd 7 rfl))) ?_
    exact ObL.nil
  · intro v a1 w hx hPP S hs hdf
    refine stable_all (by kernel_rfl) ?_
    exact hQ a1 w hx S.o hs hdf (S.dep 8 rfl (hPP 8 (by decide))) (S.dep 9 rfl (hPP 9 (by decide)))

noncomputable def lcC11 : Code := ((Try.f6.body.bind (regionOf 11)).getD .skip)
def lc11aD : List (Option Tmp) := [some 80, some 81, some 82, some 83, some 84, some 85, some 86, some 6]
def lc11aP (x : Ev) (e1 e2 : Ex)  : List (World → Value → Prop) := [(Is (.int .i64 ((EvalF (two 3 e1 e2) x).1))), (Is (.bool true)), (Is (.bool true)), (Is (.int .i64 ((EvalF (two 3 e1 e2) x).2))), (Is (.int .i64 ((EvalF e1 x).2))), (Is (.bool true)), (Is (.bool true)), (Is (.bool true))]
set_option maxHeartbeats 2000000 in
set_option maxRecDepth 100000 in
theorem lc11a (x : Ev) (hok : x.ok) (e1 e2 : Ex)  (hS : EvalF (two 3 e1 e2) x = (0, (EvalF e1 x).2)) (Q : Exit → Act → World → Prop) (a0 : Act) (W : World) (hsz : a0.tmps.size = 303) (g8 : (Is (.int .i64 ((EvalF e1 x).2))) W (a0.eval (.tmp 8))) (g11 : (Is (.int .i64 ((EvalF (two 3 e1 e2) x).1))) W (a0.eval (.tmp 11))) (g12 : (Is (.int .i64 ((EvalF (two 3 e1 e2) x).2))) W (a0.eval (.tmp 12)))
    (hQ : ∀ a1 W1, Ext W W1 → (∀ t, lc11aD.contains (some t) = false → a1.eval (.tmp t) = a0.eval (.tmp t)) → a1.tmps.size = 303 → a1.defers = a0.defers → (Is (.bool true)) W1 (a1.eval (.tmp 6)) → Q .normal a1 W1) : lcC11.wp Try.prog Q a0 W := by
  conv => arg 2; whnf
  refine wp_region_sq 8 lc11aD (lc11aP x e1 e2 ) 303 (by kernel_rfl) hsz ?_ ?_ ?_
  · exact AllSt.cons (Is.st _) (AllSt.cons (Is.st _) (AllSt.cons (Is.st _) (AllSt.cons (Is.st _) (AllSt.cons (Is.st _) (AllSt.cons (Is.st _) (AllSt.cons (Is.st _) (AllSt.cons (Is.st _) (AllSt.nil))))))))
  · simp only [List.take_succ_cons, List.take_zero]
    refine ObL.cons trivial (fun v ρ w hx hd S => op_move (p := Is (.int .i64 ((EvalF (two 3 e1 e2) x).1))) (.inl rfl) (S.out rfl ((Is.st _) _ _ _ hx g11))) ?_
    refine ObL.cons trivial (fun v ρ w hx hd S => (op_eql rfl (S.dep 0 rfl (hd 0 rfl)) (S.c _)).mono fun u w1 hu => ⟨hu.1, hu.2.trans (congrArg Value.bool (by rw [hS]; simp))⟩) ?_
    refine ObL.cons trivial (fun v ρ w hx hd S => op_move (p := Is (.bool true)) (.inl rfl) (S.dep 1 rfl (hd 1 rfl))) ?_
    refine ObL.cons ⟨rfl, fun w u h => h⟩ (fun v ρ w hx hd S => op_move (p := Is (.int .i64 ((EvalF (two 3 e1 e2) x).2))) (.inl rfl) (S.out rfl ((Is.st _) _ _ _ hx g12))) ?_
    refine ObL.cons ⟨rfl, fun w u h => h⟩ (fun v ρ w hx hd S => op_move (p := Is (.int .i64 ((EvalF e1 x).2))) (.inl rfl) (S.out rfl ((Is.st _) _ _ _ hx g8))) ?_
    refine ObL.cons ⟨rfl, fun w u h => h⟩ (fun v ρ w hx hd S => (op_eql rfl (S.dep 3 rfl (hd 3 rfl)) (S.dep 4 rfl (hd 4 rfl))).mono fun u w1 hu => ⟨hu.1, hu.2.trans (congrArg Value.bool (by rw [hS]; simp))⟩) ?_
    refine ObL.cons trivial (fun v ρ w hx hd S => op_pick (p := Is (.bool true)) true rfl (S.dep 2 rfl (hd 2 rfl)) (S.dep 5 rfl (hd 5 rfl))) ?_
    refine ObL.cons trivial (fun v ρ w hx hd S => op_move (p := Is (.bool true)) (.inr rfl) (S.dep 6 rfl (hd 6 rfl))) ?_
    exact ObL.nil
  · intro v a1 w hx hPP S hs hdf
    refine wpList_nil ?_
    exact hQ a1 w hx S.o hs hdf (S.dep 7 rfl (hPP 7 (by decide)))

def lc7bD : List (Option Tmp) := [some 67, some 68]
def lc7bP (x : Ev) (e1 e2 : Ex)  : List (World → Value → Prop) := [(Is (.int .i64 ((EvalF e1 x).2))), (Is (.bool true))]
set_option maxHeartbeats 2000000 in
set_option maxRecDepth 100000 in
theorem lc7b (x : Ev) (hok : x.ok) (e1 e2 : Ex)  (hA0 : (EvalF e1 x).2 = 0) (Q : Exit → Act → World → Prop) (a0 : Act) (W : World) (hsz : a0.tmps.size = 303) (g8 : (Is (.int .i64 ((EvalF e1 x).2))) W (a0.eval (.tmp 8)))
    (hQ : ∀ a1 W1, Ext W W1 → (∀ t, lc7bD.contains (some t) = false → a1.eval (.tmp t) = a0.eval (.tmp t)) → a1.tmps.size = 303 → a1.defers = a0.defers → (Is (.bool true)) W1 (a1.eval (.tmp 68)) → Q .normal a1 W1) : lcC7.wp Try.prog Q a0 W := by
  conv => arg 2; whnf
  refine wp_region_sq 2 lc7bD (lc7bP x e1 e2 ) 303 (by kernel_rfl) hsz ?_ ?_ ?_
  · exact AllSt.cons (Is.st _) (AllSt.cons (Is.st _) (AllSt.nil))
  · simp only [List.take_succ_cons, List.take_zero]
    refine ObL.cons trivial (fun v ρ w hx hd S => op_move (p := Is (.int .i64 ((EvalF e1 x).2))) (.inl rfl) (S.out rfl ((Is.st _) _ _ _ hx g8))) ?_
    refine ObL.cons trivial (fun v ρ w hx hd S => (op_eql rfl (S.dep 0 rfl (hd 0 rfl)) (S.c _)).mono fun u w1 hu => ⟨hu.1, hu.2.trans (congrArg Value.bool (by simpa using hA0))⟩) ?_
    exact ObL.nil
  · intro v a1 w hx hPP S hs hdf
    refine wpList_nil ?_
    exact hQ a1 w hx S.o hs hdf (S.dep 1 rfl (hPP 1 (by decide)))

noncomputable def lcC8 : Code := ((Try.f6.body.bind (regionOf 8)).getD .skip)
def lc8D : List (Option Tmp) := [some 69, some 8]
def lc8P (x : Ev) (e1 e2 : Ex)  : List (World → Value → Prop) := [(Is (.int .i64 ((EvalF e2 x).2))), (Is (.int .i64 ((EvalF e2 x).2)))]
set_option maxHeartbeats 2000000 in
set_option maxRecDepth 100000 in
theorem lc8 (x : Ev) (hok : x.ok) (e1 e2 : Ex)   (Q : Exit → Act → World → Prop) (a0 : Act) (W : World) (hsz : a0.tmps.size = 303) (g10 : (Is (.int .i64 ((EvalF e2 x).2))) W (a0.eval (.tmp 10)))
    (hQ : ∀ a1 W1, Ext W W1 → (∀ t, lc8D.contains (some t) = false → a1.eval (.tmp t) = a0.eval (.tmp t)) → a1.tmps.size = 303 → a1.defers = a0.defers → (Is (.int .i64 ((EvalF e2 x).2))) W1 (a1.eval (.tmp 8)) → Q .normal a1 W1) : lcC8.wp Try.prog Q a0 W := by
  conv => arg 2; whnf
  refine wp_region_sq 2 lc8D (lc8P x e1 e2 ) 303 (by kernel_rfl) hsz ?_ ?_ ?_
  · exact AllSt.cons (Is.st _) (AllSt.cons (Is.st _) (AllSt.nil))
  · simp only [List.take_succ_cons, List.take_zero]
    refine ObL.cons trivial (fun v ρ w hx hd S => op_move (p := Is (.int .i64 ((EvalF e2 x).2))) (.inl rfl) (S.out rfl ((Is.st _) _ _ _ hx g10))) ?_
    refine ObL.cons trivial (fun v ρ w hx hd S => op_move (p := Is (.int .i64 ((EvalF e2 x).2))) (.inr rfl) (S.dep 0 rfl (hd 0 rfl))) ?_
    exact ObL.nil
  · intro v a1 w hx hPP S hs hdf
    refine wpList_nil ?_
    exact hQ a1 w hx S.o hs hdf (S.dep 1 rfl (hPP 1 (by decide)))

def lc9bD : List (Option Tmp) := [some 70, some 71]
def lc9bP (x : Ev) (e1 e2 : Ex)  : List (World → Value → Prop) := [(Is (.int .i64 ((EvalF e2 x).2))), (Is (.bool true))]
set_option maxHeartbeats 2000000 in
set_option maxRecDepth 100000 in
theorem lc9b (x : Ev) (hok : x.ok) (e1 e2 : Ex)  (hne : ¬ (EvalF e2 x).2 = 0) (Q : Exit → Act → World → Prop) (a0 : Act) (W : World) (hsz : a0.tmps.size = 303) (g8 : (Is (.int .i64 ((EvalF e2 x).2))) W (a0.eval (.tmp 8)))
    (hQ : ∀ a1 W1, Ext W W1 → (∀ t, lc9bD.contains (some t) = false → a1.eval (.tmp t) = a0.eval (.tmp t)) → a1.tmps.size = 303 → a1.defers = a0.defers → (Is (.bool true)) W1 (a1.eval (.tmp 71)) → Q .normal a1 W1) : lcC9.wp Try.prog Q a0 W := by
  conv => arg 2; whnf
  refine wp_region_sq 2 lc9bD (lc9bP x e1 e2 ) 303 (by kernel_rfl) hsz ?_ ?_ ?_
  · exact AllSt.cons (Is.st _) (AllSt.cons (Is.st _) (AllSt.nil))
  · simp only [List.take_succ_cons, List.take_zero]
    refine ObL.cons trivial (fun v ρ w hx hd S => op_move (p := Is (.int .i64 ((EvalF e2 x).2))) (.inl rfl) (S.out rfl ((Is.st _) _ _ _ hx g8))) ?_
    refine ObL.cons trivial (fun v ρ w hx hd S => (op_neq rfl (S.dep 0 rfl (hd 0 rfl)) (S.c _)).mono fun u w1 hu => ⟨hu.1, hu.2.trans (congrArg Value.bool (by simpa using hne))⟩) ?_
    exact ObL.nil
  · intro v a1 w hx hPP S hs hdf
    refine wpList_nil ?_
    exact hQ a1 w hx S.o hs hdf (S.dep 1 rfl (hPP 1 (by decide)))

def lc10bD : List (Option Tmp) := [some 73, some 74, some 75, some 76, some 77, some 72, some 78, some 79, some 11, some 12]
def lc10bP (x : Ev) (e1 e2 : Ex)  : List (World → Value → Prop) := [(ExA e1), (ExA e2), (ExA (two 3 e1 e2)), (Is (.agg x.cells.toArray)), (Is (.tuple #[.int .i64 ((EvalF (two 3 e1 e2) x).1), .int .i64 ((EvalF (two 3 e1 e2) x).2)])), (Is (.tuple #[.int .i64 ((EvalF (two 3 e1 e2) x).1), .int .i64 ((EvalF (two 3 e1 e2) x).2)])), (Is (.int .i64 ((EvalF (two 3 e1 e2) x).1))), (Is (.int .i64 ((EvalF (two 3 e1 e2) x).2))), (Is (.int .i64 ((EvalF (two 3 e1 e2) x).1))), (Is (.int .i64 ((EvalF (two 3 e1 e2) x).2)))]
set_option maxHeartbeats 2000000 in
set_option maxRecDepth 100000 in
theorem lc10b (x : Ev) (hok : x.ok) (e1 e2 : Ex)   (Q : Exit → Act → World → Prop) (a0 : Act) (W : World) (hsz : a0.tmps.size = 303) (g3 : (VarP 7 (ExA e1)) W (a0.eval (.tmp 3))) (g4 : (VarP 7 (ExA e2)) W (a0.eval (.tmp 4))) (g5 : (VarP 17 (Is (.agg x.cells.toArray))) W (a0.eval (.tmp 5)))
    (hQ : ∀ a1 W1, Ext W W1 → (∀ t, lc10bD.contains (some t) = false → a1.eval (.tmp t) = a0.eval (.tmp t)) → a1.tmps.size = 303 → a1.defers = a0.defers → (Is (.int .i64 ((EvalF (two 3 e1 e2) x).1))) W1 (a1.eval (.tmp 11)) → (Is (.int .i64 ((EvalF (two 3 e1 e2) x).2))) W1 (a1.eval (.tmp 12)) → Q .normal a1 W1) : lcC10.wp Try.prog Q a0 W := by
  conv => arg 2; whnf
  refine wp_region_st 10 lc10bD (lc10bP x e1 e2 ) 303 (by kernel_rfl) (by kernel_rfl) hsz ?_ ?_ ?_
  · exact AllSt.cons ExA.st (AllSt.cons ExA.st (AllSt.cons ExA.st (AllSt.cons (Is.st _) (AllSt.cons (Is.st _) (AllSt.cons (Is.st _) (AllSt.cons (Is.st _) (AllSt.cons (Is.st _) (AllSt.cons (Is.st _) (AllSt.cons (Is.st _) (AllSt.nil))))))))))
  · simp only [List.take_succ_cons, List.take_zero]
    refine ObL.cons trivial (fun v ρ w hx hd S => op_loadV _ _ rfl _ Try.underlying26 rfl info_expr (S.out rfl ((VarP.st ExA.st) _ _ _ hx g3))) ?_
    refine ObL.cons trivial (fun v ρ w hx hd S => op_loadV _ _ rfl _ Try.underlying26 rfl info_expr (S.out rfl ((VarP.st ExA.st) _ _ _ hx g4))) ?_
    refine ObL.cons trivial (fun v ρ w hx hd S => op_pairA 3 (by constructor <;> decide) rfl S (S.dep 0 rfl (hd 0 rfl)) (S.dep 1 rfl (hd 1 rfl))) ?_
    refine ObL.cons trivial (fun v ρ w hx hd S => op_loadV _ _ rfl _ Try.underlying29 rfl info_env (S.out rfl ((VarP.st (Is.st _)) _ _ _ hx g5))) ?_
    refine ObL.cons trivial (fun v ρ w hx hd S => op_evalT x hok rfl S (S.dep 2 rfl (hd 2 rfl)) (S.dep 3 rfl (hd 3 rfl))) ?_
    refine ObL.cons trivial (fun v ρ w hx hd S => op_move (p := Is (.tuple #[.int .i64 ((EvalF (two 3 e1 e2) x).1), .int .i64 ((EvalF (two 3 e1 e2) x).2)])) (.inl rfl) (S.dep 4 rfl (hd 4 rfl))) ?_
    refine ObL.cons trivial (fun v ρ w hx hd S => op_extract rfl (S.dep 5 rfl (hd 5 rfl)) rfl) ?_
    refine ObL.cons trivial (fun v ρ w hx hd S => op_extract rfl (S.dep 5 rfl (hd 5 rfl)) rfl) ?_
    refine ObL.cons trivial (fun v ρ w hx hd S => op_move (p := Is (.int .i64 ((EvalF (two 3 e1 e2) x).1))) (.inr rfl) (S.dep 6 rfl (hd 6 rfl))) ?_
    refine ObL.cons trivial (fun v ρ w hx hd S => op_move (p := Is (.int .i64 ((EvalF (two 3 e1 e2) x).2))) (.inr rfl) (S.dep 7 rfl (hd 7 rfl))) ?_
    exact ObL.nil
  · intro v a1 w hx hPP S hs hdf
    refine stable_all (by kernel_rfl) ?_
    exact hQ a1 w hx S.o hs hdf (S.dep 8 rfl (hPP 8 (by decide))) (S.dep 9 rfl (hPP 9 (by decide)))

def lc11bD : List (Option Tmp) := [some 80, some 81, some 82, some 83, some 84, some 85, some 86, some 6]
def lc11bP (x : Ev) (e1 e2 : Ex)  : List (World → Value → Prop) := [(Is (.int .i64 ((EvalF (two 3 e1 e2) x).1))), (Is (.bool true)), (Is (.bool true)), (Is (.int .i64 ((EvalF (two 3 e1 e2) x).2))), (Is (.int .i64 ((EvalF e2 x).2))), (Is (.bool true)), (Is (.bool true)), (Is (.bool true))]
set_option maxHeartbeats 2000000 in
set_option maxRecDepth 100000 in
theorem lc11b (x : Ev) (hok : x.ok) (e1 e2 : Ex)  (hS : EvalF (two 3 e1 e2) x = (0, (EvalF e2 x).2)) (Q : Exit → Act → World → Prop) (a0 : Act) (W : World) (hsz : a0.tmps.size = 303) (g8 : (Is (.int .i64 ((EvalF e2 x).2))) W (a0.eval (.tmp 8))) (g11 : (Is (.int .i64 ((EvalF (two 3 e1 e2) x).1))) W (a0.eval (.tmp 11))) (g12 : (Is (.int .i64 ((EvalF (two 3 e1 e2) x).2))) W (a0.eval (.tmp 12)))
    (hQ : ∀ a1 W1, Ext W W1 → (∀ t, lc11bD.contains (some t) = false → a1.eval (.tmp t) = a0.eval (.tmp t)) → a1.tmps.size = 303 → a1.defers = a0.defers → (Is (.bool true)) W1 (a1.eval (.tmp 6)) → Q .normal a1 W1) : lcC11.wp Try.prog Q a0 W := by
  conv => arg 2; whnf
  refine wp_region_sq 8 lc11bD (lc11bP x e1 e2 ) 303 (by kernel_rfl) hsz ?_ ?_ ?_
  · exact AllSt.cons (Is.st _) (AllSt.cons (Is.st _) (AllSt.cons (Is.st _) (AllSt.cons (Is.st _) (AllSt.cons (Is.st _) (AllSt.cons (Is.st _) (AllSt.cons (Is.st _) (AllSt.cons (Is.st _) (AllSt.nil))))))))
  · simp only [List.take_succ_cons, List.take_zero]
    refine ObL.cons trivial (fun v ρ w hx hd S => op_move (p := Is (.int .i64 ((EvalF (two 3 e1 e2) x).1))) (.inl rfl) (S.out rfl ((Is.st _) _ _ _ hx g11))) ?_
    refine ObL.cons trivial (fun v ρ w hx hd S => (op_eql rfl (S.dep 0 rfl (hd 0 rfl)) (S.c _)).mono fun u w1 hu => ⟨hu.1, hu.2.trans (congrArg Value.bool (by rw [hS]; simp))⟩) ?_
    refine ObL.cons trivial (fun v ρ w hx hd S => op_move (p := Is (.bool true)) (.inl rfl) (S.dep 1 rfl (hd 1 rfl))) ?_
    refine ObL.cons ⟨rfl, fun w u h => h⟩ (fun v ρ w hx hd S => op_move (p := Is (.int .i64 ((EvalF (two 3 e1 e2) x).2))) (.inl rfl) (S.out rfl ((Is.st _) _ _ _ hx g12))) ?_
    refine ObL.cons ⟨rfl, fun w u h => h⟩ (fun v ρ w hx hd S => op_move (p := Is (.int .i64 ((EvalF e2 x).2))) (.inl rfl) (S.out rfl ((Is.st _) _ _ _ hx g8))) ?_
    refine ObL.cons ⟨rfl, fun w u h => h⟩ (fun v ρ w hx hd S => (op_eql rfl (S.dep 3 rfl (hd 3 rfl)) (S.dep 4 rfl (hd 4 rfl))).mono fun u w1 hu => ⟨hu.1, hu.2.trans (congrArg Value.bool (by rw [hS]; simp))⟩) ?_
    refine ObL.cons trivial (fun v ρ w hx hd S => op_pick (p := Is (.bool true)) true rfl (S.dep 2 rfl (hd 2 rfl)) (S.dep 5 rfl (hd 5 rfl))) ?_
    refine ObL.cons trivial (fun v ρ w hx hd S => op_move (p := Is (.bool true)) (.inr rfl) (S.dep 6 rfl (hd 6 rfl))) ?_
    exact ObL.nil
  · intro v a1 w hx hPP S hs hdf
    refine wpList_nil ?_
    exact hQ a1 w hx S.o hs hdf (S.dep 7 rfl (hPP 7 (by decide)))

def lc9cD : List (Option Tmp) := [some 70, some 71]
def lc9cP (x : Ev) (e1 e2 : Ex)  : List (World → Value → Prop) := [(Is (.int .i64 ((EvalF e2 x).2))), (Is (.bool false))]
set_option maxHeartbeats 2000000 in
set_option maxRecDepth 100000 in
theorem lc9c (x : Ev) (hok : x.ok) (e1 e2 : Ex)  (hB0 : (EvalF e2 x).2 = 0) (Q : Exit → Act → World → Prop) (a0 : Act) (W : World) (hsz : a0.tmps.size = 303) (g8 : (Is (.int .i64 ((EvalF e2 x).2))) W (a0.eval (.tmp 8)))
    (hQ : ∀ a1 W1, Ext W W1 → (∀ t, lc9cD.contains (some t) = false → a1.eval (.tmp t) = a0.eval (.tmp t)) → a1.tmps.size = 303 → a1.defers = a0.defers → (Is (.bool false)) W1 (a1.eval (.tmp 71)) → Q .normal a1 W1) : lcC9.wp Try.prog Q a0 W := by
  conv => arg 2; whnf
  refine wp_region_sq 2 lc9cD (lc9cP x e1 e2 ) 303 (by kernel_rfl) hsz ?_ ?_ ?_
  · exact AllSt.cons (Is.st _) (AllSt.cons (Is.st _) (AllSt.nil))
  · simp only [List.take_succ_cons, List.take_zero]
    refine ObL.cons trivial (fun v ρ w hx hd S => op_move (p := Is (.int .i64 ((EvalF e2 x).2))) (.inl rfl) (S.out rfl ((Is.st _) _ _ _ hx g8))) ?_
    refine ObL.cons trivial (fun v ρ w hx hd S => (op_neq rfl (S.dep 0 rfl (hd 0 rfl)) (S.c _)).mono fun u w1 hu => ⟨hu.1, hu.2.trans (congrArg Value.bool (by simpa using hB0))⟩) ?_
    exact ObL.nil
  · intro v a1 w hx hPP S hs hdf
    refine wpList_nil ?_
    exact hQ a1 w hx S.o hs hdf (S.dep 1 rfl (hPP 1 (by decide)))

noncomputable def lcC12 : Code := ((Try.f6.body.bind (regionOf 12)).getD .skip)
def lc12D : List (Option Tmp) := [some 88, some 89, some 90, some 91, some 92, some 87, some 93, some 94, some 13, some 14]
def lc12P (x : Ev) (e1 e2 : Ex)  : List (World → Value → Prop) := [(ExA e1), (ExA e2), (ExA (two 3 e1 e2)), (Is (.agg x.cells.toArray)), (Is (.tuple #[.int .i64 ((EvalF (two 3 e1 e2) x).1), .int .i64 ((EvalF (two 3 e1 e2) x).2)])), (Is (.tuple #[.int .i64 ((EvalF (two 3 e1 e2) x).1), .int .i64 ((EvalF (two 3 e1 e2) x).2)])), (Is (.int .i64 ((EvalF (two 3 e1 e2) x).1))), (Is (.int .i64 ((EvalF (two 3 e1 e2) x).2))), (Is (.int .i64 ((EvalF (two 3 e1 e2) x).1))), (Is (.int .i64 ((EvalF (two 3 e1 e2) x).2)))]
set_option maxHeartbeats 2000000 in
set_option maxRecDepth 100000 in
theorem lc12 (x : Ev) (hok : x.ok) (e1 e2 : Ex)   (Q : Exit → Act → World → Prop) (a0 : Act) (W : World) (hsz : a0.tmps.size = 303) (g3 : (VarP 7 (ExA e1)) W (a0.eval (.tmp 3))) (g4 : (VarP 7 (ExA e2)) W (a0.eval (.tmp 4))) (g5 : (VarP 17 (Is (.agg x.cells.toArray))) W (a0.eval (.tmp 5)))
    (hQ : ∀ a1 W1, Ext W W1 → (∀ t, lc12D.contains (some t) = false → a1.eval (.tmp t) = a0.eval (.tmp t)) → a1.tmps.size = 303 → a1.defers = a0.defers → (Is (.int .i64 ((EvalF (two 3 e1 e2) x).1))) W1 (a1.eval (.tmp 13)) → (Is (.int .i64 ((EvalF (two 3 e1 e2) x).2))) W1 (a1.eval (.tmp 14)) → Q .normal a1 W1) : lcC12.wp Try.prog Q a0 W := by
  conv => arg 2; whnf
  refine wp_region_st 10 lc12D (lc12P x e1 e2 ) 303 (by kernel_rfl) (by kernel_rfl) hsz ?_ ?_ ?_
  · exact AllSt.cons ExA.st (AllSt.cons ExA.st (AllSt.cons ExA.st (AllSt.cons (Is.st _) (AllSt.cons (Is.st _) (AllSt.cons (Is.st _) (AllSt.cons (Is.st _) (AllSt.cons (Is.st _) (AllSt.cons (Is.st _) (AllSt.cons (Is.st _) (AllSt.nil))))))))))
  · simp only [List.take_succ_cons, List.take_zero]
    refine ObL.cons trivial (fun v ρ w hx hd S => op_loadV _ _ rfl _ Try.underlying26 rfl info_expr (S.out rfl ((VarP.st ExA.st) _ _ _ hx g3))) ?_
    refine ObL.cons trivial (fun v ρ w hx hd S => op_loadV _ _ rfl _ Try.underlying26 rfl info_expr (S.out rfl ((VarP.st ExA.st) _ _ _ hx g4))) ?_
    refine ObL.cons trivial (fun v ρ w hx hd S => op_pairA 3 (by constructor <;> decide) rfl S (S.dep 0 rfl (hd 0 rfl)) (S.dep 1 rfl (hd 1 rfl))) ?_
    refine ObL.cons trivial (fun v ρ w hx hd S => op_loadV _ _ rfl _ Try.underlying29 rfl info_env (S.out rfl ((VarP.st (Is.st _)) _ _ _ hx g5))) ?_
    refine ObL.cons trivial (fun v ρ w hx hd S => op_evalT x hok rfl S (S.dep 2 rfl (hd 2 rfl)) (S.dep 3 rfl (hd 3 rfl))) ?_
    refine ObL.cons trivial (fun v ρ w hx hd S => op_move (p := Is (.tuple #[.int .i64 ((EvalF (two 3 e1 e2) x).1), .int .i64 ((EvalF (two 3 e1 e2) x).2)])) (.inl rfl) (S.dep 4 rfl (hd 4 rfl))) ?_
    refine ObL.cons trivial (fun v ρ w hx hd S => op_extract rfl (S.dep 5 rfl (hd 5 rfl)) rfl) ?_
    refine ObL.cons trivial (fun v ρ w hx hd S => op_extract rfl (S.dep 5 rfl (hd 5 rfl)) rfl) ?_
    refine ObL.cons trivial (fun v ρ w hx hd S => op_move (p := Is (.int .i64 ((EvalF (two 3 e1 e2) x).1))) (.inr rfl) (S.dep 6 rfl (hd 6 rfl))) ?_
    refine ObL.cons trivial (fun v ρ w hx hd S => op_move (p := Is (.int .i64 ((EvalF (two 3 e1 e2) x).2))) (.inr rfl) (S.dep 7 rfl (hd 7 rfl))) ?_
    exact ObL.nil
  · intro v a1 w hx hPP S hs hdf
    refine stable_all (by kernel_rfl) ?_
    exact hQ a1 w hx S.o hs hdf (S.dep 8 rfl (hPP 8 (by decide))) (S.dep 9 rfl (hPP 9 (by decide)))

noncomputable def lcC13 : Code := ((Try.f6.body.bind (regionOf 13)).getD .skip)
def lc13D : List (Option Tmp) := [some 96, some 97, some 98, some 95, some 99, some 100, some 15, some 16]
def lc13P (x : Ev) (e1 e2 : Ex)  : List (World → Value → Prop) := [(Is (.int .i64 ((EvalF e1 x).1))), (Is (.int .i64 ((EvalF e2 x).1))), (Is (.tuple #[.int .i64 ((addF (EvalF e1 x).1 (EvalF e2 x).1).1), .int .i64 ((addF (EvalF e1 x).1 (EvalF e2 x).1).2)])), (Is (.tuple #[.int .i64 ((addF (EvalF e1 x).1 (EvalF e2 x).1).1), .int .i64 ((addF (EvalF e1 x).1 (EvalF e2 x).1).2)])), (Is (.int .i64 ((addF (EvalF e1 x).1 (EvalF e2 x).1).1))), (Is (.int .i64 ((addF (EvalF e1 x).1 (EvalF e2 x).1).2))), (Is (.int .i64 ((addF (EvalF e1 x).1 (EvalF e2 x).1).1))), (Is (.int .i64 ((addF (EvalF e1 x).1 (EvalF e2 x).1).2)))]
set_option maxHeartbeats 2000000 in
set_option maxRecDepth 100000 in
theorem lc13 (x : Ev) (hok : x.ok) (e1 e2 : Ex)   (Q : Exit → Act → World → Prop) (a0 : Act) (W : World) (hsz : a0.tmps.size = 303) (g7 : (Is (.int .i64 ((EvalF e1 x).1))) W (a0.eval (.tmp 7))) (g9 : (Is (.int .i64 ((EvalF e2 x).1))) W (a0.eval (.tmp 9)))
    (hQ : ∀ a1 W1, Ext W W1 → (∀ t, lc13D.contains (some t) = false → a1.eval (.tmp t) = a0.eval (.tmp t)) → a1.tmps.size = 303 → a1.defers = a0.defers → (Is (.int .i64 ((addF (EvalF e1 x).1 (EvalF e2 x).1).1))) W1 (a1.eval (.tmp 15)) → (Is (.int .i64 ((addF (EvalF e1 x).1 (EvalF e2 x).1).2))) W1 (a1.eval (.tmp 16)) → Q .normal a1 W1) : lcC13.wp Try.prog Q a0 W := by
  conv => arg 2; whnf
  refine wp_region_sq 8 lc13D (lc13P x e1 e2 ) 303 (by kernel_rfl) hsz ?_ ?_ ?_
  · exact AllSt.cons (Is.st _) (AllSt.cons (Is.st _) (AllSt.cons (Is.st _) (AllSt.cons (Is.st _) (AllSt.cons (Is.st _) (AllSt.cons (Is.st _) (AllSt.cons (Is.st _) (AllSt.cons (Is.st _) (AllSt.nil))))))))
  · simp only [List.take_succ_cons, List.take_zero]
    refine ObL.cons trivial (fun v ρ w hx hd S => op_move (p := Is (.int .i64 ((EvalF e1 x).1))) (.inl rfl) (S.out rfl ((Is.st _) _ _ _ hx g7))) ?_
    refine ObL.cons trivial (fun v ρ w hx hd S => op_move (p := Is (.int .i64 ((EvalF e2 x).1))) (.inl rfl) (S.out rfl ((Is.st _) _ _ _ hx g9))) ?_
    refine ObL.cons trivial (fun v ρ w hx hd S => op_madd rfl S (S.dep 0 rfl (hd 0 rfl)) (S.dep 1 rfl (hd 1 rfl))) ?_
    refine ObL.cons trivial (fun v ρ w hx hd S => op_move (p := Is (.tuple #[.int .i64 ((addF (EvalF e1 x).1 (EvalF e2 x).1).1), .int .i64 ((addF (EvalF e1 x).1 (EvalF e2 x).1).2)])) (.inl rfl) (S.dep 2 rfl (hd 2 rfl))) ?_
    refine ObL.cons trivial (fun v ρ w hx hd S => op_extract rfl (S.dep 3 rfl (hd 3 rfl)) rfl) ?_
    refine ObL.cons trivial (fun v ρ w hx hd S => op_extract rfl (S.dep 3 rfl (hd 3 rfl)) rfl) ?_
    refine ObL.cons trivial (fun v ρ w hx hd S => op_move (p := Is (.int .i64 ((addF (EvalF e1 x).1 (EvalF e2 x).1).1))) (.inr rfl) (S.dep 4 rfl (hd 4 rfl))) ?_
    refine ObL.cons trivial (fun v ρ w hx hd S => op_move (p := Is (.int .i64 ((addF (EvalF e1 x).1 (EvalF e2 x).1).2))) (.inr rfl) (S.dep 5 rfl (hd 5 rfl))) ?_
    exact ObL.nil
  · intro v a1 w hx hPP S hs hdf
    refine wpList_nil ?_
    exact hQ a1 w hx S.o hs hdf (S.dep 6 rfl (hPP 6 (by decide))) (S.dep 7 rfl (hPP 7 (by decide)))

noncomputable def lcC14 : Code := ((Try.f6.body.bind (regionOf 14)).getD .skip)
def lc14D : List (Option Tmp) := [some 102, some 103, some 104, some 105, some 106, some 101, some 107, some 108, some 17, some 18]
def lc14P (x : Ev) (e1 e2 : Ex)  : List (World → Value → Prop) := [(ExA e1), (ExA e2), (ExA (two 5 e1 e2)), (Is (.agg x.cells.toArray)), (Is (.tuple #[.int .i64 ((EvalF (two 5 e1 e2) x).1), .int .i64 ((EvalF (two 5 e1 e2) x).2)])), (Is (.tuple #[.int .i64 ((EvalF (two 5 e1 e2) x).1), .int .i64 ((EvalF (two 5 e1 e2) x).2)])), (Is (.int .i64 ((EvalF (two 5 e1 e2) x).1))), (Is (.int .i64 ((EvalF (two 5 e1 e2) x).2))), (Is (.int .i64 ((EvalF (two 5 e1 e2) x).1))), (Is (.int .i64 ((EvalF (two 5 e1 e2) x).2)))]
set_option maxHeartbeats 2000000 in
set_option maxRecDepth 100000 in
theorem lc14 (x : Ev) (hok : x.ok) (e1 e2 : Ex)   (Q : Exit → Act → World → Prop) (a0 : Act) (W : World) (hsz : a0.tmps.size = 303) (g3 : (VarP 7 (ExA e1)) W (a0.eval (.tmp 3))) (g4 : (VarP 7 (ExA e2)) W (a0.eval (.tmp 4))) (g5 : (VarP 17 (Is (.agg x.cells.toArray))) W (a0.eval (.tmp 5)))
    (hQ : ∀ a1 W1, Ext W W1 → (∀ t, lc14D.contains (some t) = false → a1.eval (.tmp t) = a0.eval (.tmp t)) → a1.tmps.size = 303 → a1.defers = a0.defers → (Is (.int .i64 ((EvalF (two 5 e1 e2) x).1))) W1 (a1.eval (.tmp 17)) → (Is (.int .i64 ((EvalF (two 5 e1 e2) x).2))) W1 (a1.eval (.tmp 18)) → Q .normal a1 W1) : lcC14.wp Try.prog Q a0 W := by
  conv => arg 2; whnf
  refine wp_region_st 10 lc14D (lc14P x e1 e2 ) 303 (by kernel_rfl) (by kernel_rfl) hsz ?_ ?_ ?_
  · exact AllSt.cons ExA.st (AllSt.cons ExA.st (AllSt.cons ExA.st (AllSt.cons (Is.st _) (AllSt.cons (Is.st _) (AllSt.cons (Is.st _) (AllSt.cons (Is.st _) (AllSt.cons (Is.st _) (AllSt.cons (Is.st _) (AllSt.cons (Is.st _) (AllSt.nil))))))))))
  · simp only [List.take_succ_cons, List.take_zero]
    refine ObL.cons trivial (fun v ρ w hx hd S => op_loadV _ _ rfl _ Try.underlying26 rfl info_expr (S.out rfl ((VarP.st ExA.st) _ _ _ hx g3))) ?_
    refine ObL.cons trivial (fun v ρ w hx hd S => op_loadV _ _ rfl _ Try.underlying26 rfl info_expr (S.out rfl ((VarP.st ExA.st) _ _ _ hx g4))) ?_
    refine ObL.cons trivial (fun v ρ w hx hd S => op_pairA 5 (by constructor <;> decide) rfl S (S.dep 0 rfl (hd 0 rfl)) (S.dep 1 rfl (hd 1 rfl))) ?_
    refine ObL.cons trivial (fun v ρ w hx hd S => op_loadV _ _ rfl _ Try.underlying29 rfl info_env (S.out rfl ((VarP.st (Is.st _)) _ _ _ hx g5))) ?_
    refine ObL.cons trivial (fun v ρ w hx hd S => op_evalT x hok rfl S (S.dep 2 rfl (hd 2 rfl)) (S.dep 3 rfl (hd 3 rfl))) ?_
    refine ObL.cons trivial (fun v ρ w hx hd S => op_move (p := Is (.tuple #[.int .i64 ((EvalF (two 5 e1 e2) x).1), .int .i64 ((EvalF (two 5 e1 e2) x).2)])) (.inl rfl) (S.dep 4 rfl (hd 4 rfl))) ?_
    refine ObL.cons trivial (fun v ρ w hx hd S => op_extract rfl (S.dep 5 rfl (hd 5 rfl)) rfl) ?_
    refine ObL.cons trivial (fun v ρ w hx hd S => op_extract rfl (S.dep 5 rfl (hd 5 rfl)) rfl) ?_
    refine ObL.cons trivial (fun v ρ w hx hd S => op_move (p := Is (.int .i64 ((EvalF (two 5 e1 e2) x).1))) (.inr rfl) (S.dep 6 rfl (hd 6 rfl))) ?_
    refine ObL.cons trivial (fun v ρ w hx hd S => op_move (p := Is (.int .i64 ((EvalF (two 5 e1 e2) x).2))) (.inr rfl) (S.dep 7 rfl (hd 7 rfl))) ?_
    exact ObL.nil
  · intro v a1 w hx hPP S hs hdf
    refine stable_all (by kernel_rfl) ?_
    exact hQ a1 w hx S.o hs hdf (S.dep 8 rfl (hPP 8 (by decide))) (S.dep 9 rfl (hPP 9 (by decide)))

noncomputable def lcC15 : Code := ((Try.f6.body.bind (regionOf 15)).getD .skip)
def lc15D : List (Option Tmp) := [some 110, some 111, some 112, some 109, some 113, some 114, some 19, some 20]
def lc15P (x : Ev) (e1 e2 : Ex)  : List (World → Value → Prop) := [(Is (.int .i64 ((EvalF e1 x).1))), (Is (.int .i64 ((EvalF e2 x).1))), (Is (.tuple #[.int .i64 ((mulF (EvalF e1 x).1 (EvalF e2 x).1).1), .int .i64 ((mulF (EvalF e1 x).1 (EvalF e2 x).1).2)])), (Is (.tuple #[.int .i64 ((mulF (EvalF e1 x).1 (EvalF e2 x).1).1), .int .i64 ((mulF (EvalF e1 x).1 (EvalF e2 x).1).2)])), (Is (.int .i64 ((mulF (EvalF e1 x).1 (EvalF e2 x).1).1))), (Is (.int .i64 ((mulF (EvalF e1 x).1 (EvalF e2 x).1).2))), (Is (.int .i64 ((mulF (EvalF e1 x).1 (EvalF e2 x).1).1))), (Is (.int .i64 ((mulF (EvalF e1 x).1 (EvalF e2 x).1).2)))]
set_option maxHeartbeats 2000000 in
set_option maxRecDepth 100000 in
theorem lc15 (x : Ev) (hok : x.ok) (e1 e2 : Ex)   (Q : Exit → Act → World → Prop) (a0 : Act) (W : World) (hsz : a0.tmps.size = 303) (g7 : (Is (.int .i64 ((EvalF e1 x).1))) W (a0.eval (.tmp 7))) (g9 : (Is (.int .i64 ((EvalF e2 x).1))) W (a0.eval (.tmp 9)))
    (hQ : ∀ a1 W1, Ext W W1 → (∀ t, lc15D.contains (some t) = false → a1.eval (.tmp t) = a0.eval (.tmp t)) → a1.tmps.size = 303 → a1.defers = a0.defers → (Is (.int .i64 ((mulF (EvalF e1 x).1 (EvalF e2 x).1).1))) W1 (a1.eval (.tmp 19)) → (Is (.int .i64 ((mulF (EvalF e1 x).1 (EvalF e2 x).1).2))) W1 (a1.eval (.tmp 20)) → Q .normal a1 W1) : lcC15.wp Try.prog Q a0 W := by
  conv => arg 2; whnf
  refine wp_region_sq 8 lc15D (lc15P x e1 e2 ) 303 (by kernel_rfl) hsz ?_ ?_ ?_
  · exact AllSt.cons (Is.st _) (AllSt.cons (Is.st _) (AllSt.cons (Is.st _) (AllSt.cons (Is.st _) (AllSt.cons (Is.st _) (AllSt.cons (Is.st _) (AllSt.cons (Is.st _) (AllSt.cons (Is.st _) (AllSt.nil))))))))
  · simp only [List.take_succ_cons, List.take_zero]
    refine ObL.cons trivial (fun v ρ w hx hd S => op_move (p := Is (.int .i64 ((EvalF e1 x).1))) (.inl rfl) (S.out rfl ((Is.st _) _ _ _ hx g7))) ?_
    refine ObL.cons trivial (fun v ρ w hx hd S => op_move (p := Is (.int .i64 ((EvalF e2 x).1))) (.inl rfl) (S.out rfl ((Is.st _) _ _ _ hx g9))) ?_
    refine ObL.cons trivial (fun v ρ w hx hd S => op_mmul rfl S (S.dep 0 rfl (hd 0 rfl)) (S.dep 1 rfl (hd 1 rfl))) ?_
    refine ObL.cons trivial (fun v ρ w hx hd S => op_move (p := Is (.tuple #[.int .i64 ((mulF (EvalF e1 x).1 (EvalF e2 x).1).1), .int .i64 ((mulF (EvalF e1 x).1 (EvalF e2 x).1).2)])) (.inl rfl) (S.dep 2 rfl (hd 2 rfl))) ?_
    refine ObL.cons trivial (fun v ρ w hx hd S => op_extract rfl (S.dep 3 rfl (hd 3 rfl)) rfl) ?_
    refine ObL.cons trivial (fun v ρ w hx hd S => op_extract rfl (S.dep 3 rfl (hd 3 rfl)) rfl) ?_
    refine ObL.cons trivial (fun v ρ w hx hd S => op_move (p := Is (.int .i64 ((mulF (EvalF e1 x).1 (EvalF e2 x).1).1))) (.inr rfl) (S.dep 4 rfl (hd 4 rfl))) ?_
    refine ObL.cons trivial (fun v ρ w hx hd S => op_move (p := Is (.int .i64 ((mulF (EvalF e1 x).1 (EvalF e2 x).1).2))) (.inr rfl) (S.dep 5 rfl (hd 5 rfl))) ?_
    exact ObL.nil
  · intro v a1 w hx hPP S hs hdf
    refine wpList_nil ?_
    exact hQ a1 w hx S.o hs hdf (S.dep 6 rfl (hPP 6 (by decide))) (S.dep 7 rfl (hPP 7 (by decide)))

noncomputable def lcC16 : Code := ((Try.f6.body.bind (regionOf 16)).getD .skip)
def lc16D : List (Option Tmp) := [some 116, some 117, some 118, some 119, some 120, some 115, some 121, some 122, some 21, some 22]
def lc16P (x : Ev) (e1 e2 : Ex)  : List (World → Value → Prop) := [(ExA e1), (ExA e2), (ExA (two 4 e1 e2)), (Is (.agg x.cells.toArray)), (Is (.tuple #[.int .i64 ((EvalF (two 4 e1 e2) x).1), .int .i64 ((EvalF (two 4 e1 e2) x).2)])), (Is (.tuple #[.int .i64 ((EvalF (two 4 e1 e2) x).1), .int .i64 ((EvalF (two 4 e1 e2) x).2)])), (Is (.int .i64 ((EvalF (two 4 e1 e2) x).1))), (Is (.int .i64 ((EvalF (two 4 e1 e2) x).2))), (Is (.int .i64 ((EvalF (two 4 e1 e2) x).1))), (Is (.int .i64 ((EvalF (two 4 e1 e2) x).2)))]
set_option maxHeartbeats 2000000 in
set_option maxRecDepth 100000 in
theorem lc16 (x : Ev) (hok : x.ok) (e1 e2 : Ex)   (Q : Exit → Act → World → Prop) (a0 : Act) (W : World) (hsz : a0.tmps.size = 303) (g3 : (VarP 7 (ExA e1)) W (a0.eval (.tmp 3))) (g4 : (VarP 7 (ExA e2)) W (a0.eval (.tmp 4))) (g5 : (VarP 17 (Is (.agg x.cells.toArray))) W (a0.eval (.tmp 5)))
    (hQ : ∀ a1 W1, Ext W W1 → (∀ t, lc16D.contains (some t) = false → a1.eval (.tmp t) = a0.eval (.tmp t)) → a1.tmps.size = 303 → a1.defers = a0.defers → (Is (.int .i64 ((EvalF (two 4 e1 e2) x).1))) W1 (a1.eval (.tmp 21)) → (Is (.int .i64 ((EvalF (two 4 e1 e2) x).2))) W1 (a1.eval (.tmp 22)) → Q .normal a1 W1) : lcC16.wp Try.prog Q a0 W := by
  conv => arg 2; whnf
  refine wp_region_st 10 lc16D (lc16P x e1 e2 ) 303 (by kernel_rfl) (by kernel_rfl) hsz ?_ ?_ ?_
  · exact AllSt.cons ExA.st (AllSt.cons ExA.st (AllSt.cons ExA.st (AllSt.cons (Is.st _) (AllSt.cons (Is.st _) (AllSt.cons (Is.st _) (AllSt.cons (Is.st _) (AllSt.cons (Is.st _) (AllSt.cons (Is.st _) (AllSt.cons (Is.st _) (AllSt.nil))))))))))
  · simp only [List.take_succ_cons, List.take_zero]
    refine ObL.cons trivial (fun v ρ w hx hd S => op_loadV _ _ rfl _ Try.underlying26 rfl info_expr (S.out rfl ((VarP.st ExA.st) _ _ _ hx g3))) ?_
    refine ObL.cons trivial (fun v ρ w hx hd S => op_loadV _ _ rfl _ Try.underlying26 rfl info_expr (S.out rfl ((VarP.st ExA.st) _ _ _ hx g4))) ?_
    refine ObL.cons trivial (fun v ρ w hx hd S => op_pairA 4 (by constructor <;> decide) rfl S (S.dep 0 rfl (hd 0 rfl)) (S.dep 1 rfl (hd 1 rfl))) ?_
    refine ObL.cons trivial (fun v ρ w hx hd S => op_loadV _ _ rfl _ Try.underlying29 rfl info_env (S.out rfl ((VarP.st (Is.st _)) _ _ _ hx g5))) ?_
    refine ObL.cons trivial (fun v ρ w hx hd S => op_evalT x hok rfl S (S.dep 2 rfl (hd 2 rfl)) (S.dep 3 rfl (hd 3 rfl))) ?_
    refine ObL.cons trivial (fun v ρ w hx hd S => op_move (p := Is (.tuple #[.int .i64 ((EvalF (two 4 e1 e2) x).1), .int .i64 ((EvalF (two 4 e1 e2) x).2)])) (.inl rfl) (S.dep 4 rfl (hd 4 rfl))) ?_
    refine ObL.cons trivial (fun v ρ w hx hd S => op_extract rfl (S.dep 5 rfl (hd 5 rfl)) rfl) ?_
    refine ObL.cons trivial (fun v ρ w hx hd S => op_extract rfl (S.dep 5 rfl (hd 5 rfl)) rfl) ?_
    refine ObL.cons trivial (fun v ρ w hx hd S => op_move (p := Is (.int .i64 ((EvalF (two 4 e1 e2) x).1))) (.inr rfl) (S.dep 6 rfl (hd 6 rfl))) ?_
    refine ObL.cons trivial (fun v ρ w hx hd S => op_move (p := Is (.int .i64 ((EvalF (two 4 e1 e2) x).2))) (.inr rfl) (S.dep 7 rfl (hd 7 rfl))) ?_
    exact ObL.nil
  · intro v a1 w hx hPP S hs hdf
    refine stable_all (by kernel_rfl) ?_
    exact hQ a1 w hx S.o hs hdf (S.dep 8 rfl (hPP 8 (by decide))) (S.dep 9 rfl (hPP 9 (by decide)))

noncomputable def lcC17 : Code := ((Try.f6.body.bind (regionOf 17)).getD .skip)
def lc17D : List (Option Tmp) := [some 124, some 125, some 126, some 123, some 127, some 128, some 23, some 24]
def lc17P (x : Ev) (e1 e2 : Ex)  : List (World → Value → Prop) := [(Is (.int .i64 ((EvalF e1 x).1))), (Is (.int .i64 ((EvalF e2 x).1))), (Is (.tuple #[.int .i64 ((subF (EvalF e1 x).1 (EvalF e2 x).1).1), .int .i64 ((subF (EvalF e1 x).1 (EvalF e2 x).1).2)])), (Is (.tuple #[.int .i64 ((subF (EvalF e1 x).1 (EvalF e2 x).1).1), .int .i64 ((subF (EvalF e1 x).1 (EvalF e2 x).1).2)])), (Is (.int .i64 ((subF (EvalF e1 x).1 (EvalF e2 x).1).1))), (Is (.int .i64 ((subF (EvalF e1 x).1 (EvalF e2 x).1).2))), (Is (.int .i64 ((subF (EvalF e1 x).1 (EvalF e2 x).1).1))), (Is (.int .i64 ((subF (EvalF e1 x).1 (EvalF e2 x).1).2)))]
set_option maxHeartbeats 2000000 in
set_option maxRecDepth 100000 in
theorem lc17 (x : Ev) (hok : x.ok) (e1 e2 : Ex)   (Q : Exit → Act → World → Prop) (a0 : Act) (W : World) (hsz : a0.tmps.size = 303) (g7 : (Is (.int .i64 ((EvalF e1 x).1))) W (a0.eval (.tmp 7))) (g9 : (Is (.int .i64 ((EvalF e2 x).1))) W (a0.eval (.tmp 9)))
    (hQ : ∀ a1 W1, Ext W W1 → (∀ t, lc17D.contains (some t) = false → a1.eval (.tmp t) = a0.eval (.tmp t)) → a1.tmps.size = 303 → a1.defers = a0.defers → (Is (.int .i64 ((subF (EvalF e1 x).1 (EvalF e2 x).1).1))) W1 (a1.eval (.tmp 23)) → (Is (.int .i64 ((subF (EvalF e1 x).1 (EvalF e2 x).1).2))) W1 (a1.eval (.tmp 24)) → Q .normal a1 W1) : lcC17.wp Try.prog Q a0 W := by
  conv => arg 2; whnf
  refine wp_region_sq 8 lc17D (lc17P x e1 e2 ) 303 (by kernel_rfl) hsz ?_ ?_ ?_
  · exact AllSt.cons (Is.st _) (AllSt.cons (Is.st _) (AllSt.cons (Is.st _) (AllSt.cons (Is.st _) (AllSt.cons (Is.st _) (AllSt.cons (Is.st _) (AllSt.cons (Is.st _) (AllSt.cons (Is.st _) (AllSt.nil))))))))
  · simp only [List.take_succ_cons, List.take_zero]
    refine ObL.cons trivial (fun v ρ w hx hd S => op_move (p := Is (.int .i64 ((EvalF e1 x).1))) (.inl rfl) (S.out rfl ((Is.st _) _ _ _ hx g7))) ?_
    refine ObL.cons trivial (fun v ρ w hx hd S => op_move (p := Is (.int .i64 ((EvalF e2 x).1))) (.inl rfl) (S.out rfl ((Is.st _) _ _ _ hx g9))) ?_
    refine ObL.cons trivial (fun v ρ w hx hd S => op_msub rfl S (S.dep 0 rfl (hd 0 rfl)) (S.dep 1 rfl (hd 1 rfl))) ?_
    refine ObL.cons trivial (fun v ρ w hx hd S => op_move (p := Is (.tuple #[.int .i64 ((subF (EvalF e1 x).1 (EvalF e2 x).1).1), .int .i64 ((subF (EvalF e1 x).1 (EvalF e2 x).1).2)])) (.inl rfl) (S.dep 2 rfl (hd 2 rfl))) ?_
    refine ObL.cons trivial (fun v ρ w hx hd S => op_extract rfl (S.dep 3 rfl (hd 3 rfl)) rfl) ?_
    refine ObL.cons trivial (fun v ρ w hx hd S => op_extract rfl (S.dep 3 rfl (hd 3 rfl)) rfl) ?_
    refine ObL.cons trivial (fun v ρ w hx hd S => op_move (p := Is (.int .i64 ((subF (EvalF e1 x).1 (EvalF e2 x).1).1))) (.inr rfl) (S.dep 4 rfl (hd 4 rfl))) ?_
    refine ObL.cons trivial (fun v ρ w hx hd S => op_move (p := Is (.int .i64 ((subF (EvalF e1 x).1 (EvalF e2 x).1).2))) (.inr rfl) (S.dep 5 rfl (hd 5 rfl))) ?_
    exact ObL.nil
  · intro v a1 w hx hPP S hs hdf
    refine wpList_nil ?_
    exact hQ a1 w hx S.o hs hdf (S.dep 6 rfl (hPP 6 (by decide))) (S.dep 7 rfl (hPP 7 (by decide)))

noncomputable def lcC18 : Code := ((Try.f6.body.bind (regionOf 18)).getD .skip)
def lc18D : List (Option Tmp) := [some 130, some 131, some 132, some 133, some 134, some 129, some 135, some 136, some 25, some 26]
def lc18P (x : Ev) (e1 e2 : Ex)  : List (World → Value → Prop) := [(ExA e1), (ExA e2), (ExA (two 6 e1 e2)), (Is (.agg x.cells.toArray)), (Is (.tuple #[.int .i64 ((EvalF (two 6 e1 e2) x).1), .int .i64 ((EvalF (two 6 e1 e2) x).2)])), (Is (.tuple #[.int .i64 ((EvalF (two 6 e1 e2) x).1), .int .i64 ((EvalF (two 6 e1 e2) x).2)])), (Is (.int .i64 ((EvalF (two 6 e1 e2) x).1))), (Is (.int .i64 ((EvalF (two 6 e1 e2) x).2))), (Is (.int .i64 ((EvalF (two 6 e1 e2) x).1))), (Is (.int .i64 ((EvalF (two 6 e1 e2) x).2)))]
set_option maxHeartbeats 2000000 in
set_option maxRecDepth 100000 in
theorem lc18 (x : Ev) (hok : x.ok) (e1 e2 : Ex)   (Q : Exit → Act → World → Prop) (a0 : Act) (W : World) (hsz : a0.tmps.size = 303) (g3 : (VarP 7 (ExA e1)) W (a0.eval (.tmp 3))) (g4 : (VarP 7 (ExA e2)) W (a0.eval (.tmp 4))) (g5 : (VarP 17 (Is (.agg x.cells.toArray))) W (a0.eval (.tmp 5)))
    (hQ : ∀ a1 W1, Ext W W1 → (∀ t, lc18D.contains (some t) = false → a1.eval (.tmp t) = a0.eval (.tmp t)) → a1.tmps.size = 303 → a1.defers = a0.defers → (Is (.int .i64 ((EvalF (two 6 e1 e2) x).1))) W1 (a1.eval (.tmp 25)) → (Is (.int .i64 ((EvalF (two 6 e1 e2) x).2))) W1 (a1.eval (.tmp 26)) → Q .normal a1 W1) : lcC18.wp Try.prog Q a0 W := by
  conv => arg 2; whnf
  refine wp_region_st 10 lc18D (lc18P x e1 e2 ) 303 (by kernel_rfl) (by kernel_rfl) hsz ?_ ?_ ?_
  · exact AllSt.cons ExA.st (AllSt.cons ExA.st (AllSt.cons ExA.st (AllSt.cons (Is.st _) (AllSt.cons (Is.st _) (AllSt.cons (Is.st _) (AllSt.cons (Is.st _) (AllSt.cons (Is.st _) (AllSt.cons (Is.st _) (AllSt.cons (Is.st _) (AllSt.nil))))))))))
  · simp only [List.take_succ_cons, List.take_zero]
    refine ObL.cons trivial (fun v ρ w hx hd S => op_loadV _ _ rfl _ Try.underlying26 rfl info_expr (S.out rfl ((VarP.st ExA.st) _ _ _ hx g3))) ?_
    refine ObL.cons trivial (fun v ρ w hx hd S => op_loadV _ _ rfl _ Try.underlying26 rfl info_expr (S.out rfl ((VarP.st ExA.st) _ _ _ hx g4))) ?_
    refine ObL.cons trivial (fun v ρ w hx hd S => op_pairA 6 (by constructor <;> decide) rfl S (S.dep 0 rfl (hd 0 rfl)) (S.dep 1 rfl (hd 1 rfl))) ?_
    refine ObL.cons trivial (fun v ρ w hx hd S => op_loadV _ _ rfl _ Try.underlying29 rfl info_env (S.out rfl ((VarP.st (Is.st _)) _ _ _ hx g5))) ?_
    refine ObL.cons trivial (fun v ρ w hx hd S => op_evalT x hok rfl S (S.dep 2 rfl (hd 2 rfl)) (S.dep 3 rfl (hd 3 rfl))) ?_
    refine ObL.cons trivial (fun v ρ w hx hd S => op_move (p := Is (.tuple #[.int .i64 ((EvalF (two 6 e1 e2) x).1), .int .i64 ((EvalF (two 6 e1 e2) x).2)])) (.inl rfl) (S.dep 4 rfl (hd 4 rfl))) ?_
    refine ObL.cons trivial (fun v ρ w hx hd S => op_extract rfl (S.dep 5 rfl (hd 5 rfl)) rfl) ?_
    refine ObL.cons trivial (fun v ρ w hx hd S => op_extract rfl (S.dep 5 rfl (hd 5 rfl)) rfl) ?_
    refine ObL.cons trivial (fun v ρ w hx hd S => op_move (p := Is (.int .i64 ((EvalF (two 6 e1 e2) x).1))) (.inr rfl) (S.dep 6 rfl (hd 6 rfl))) ?_
    refine ObL.cons trivial (fun v ρ w hx hd S => op_move (p := Is (.int .i64 ((EvalF (two 6 e1 e2) x).2))) (.inr rfl) (S.dep 7 rfl (hd 7 rfl))) ?_
    exact ObL.nil
  · intro v a1 w hx hPP S hs hdf
    refine stable_all (by kernel_rfl) ?_
    exact hQ a1 w hx S.o hs hdf (S.dep 8 rfl (hPP 8 (by decide))) (S.dep 9 rfl (hPP 9 (by decide)))

noncomputable def lcC19 : Code := ((Try.f6.body.bind (regionOf 19)).getD .skip)
def lc19D : List (Option Tmp) := [some 138, some 139, some 140, some 141, some 142, some 137, some 143, some 144, some 27, some 28]
def lc19P (x : Ev) (e1 e2 : Ex)  : List (World → Value → Prop) := [(ExA e1), (ExA e2), (ExA (two 7 e1 e2)), (Is (.agg x.cells.toArray)), (Is (.tuple #[.int .i64 ((EvalF (two 7 e1 e2) x).1), .int .i64 ((EvalF (two 7 e1 e2) x).2)])), (Is (.tuple #[.int .i64 ((EvalF (two 7 e1 e2) x).1), .int .i64 ((EvalF (two 7 e1 e2) x).2)])), (Is (.int .i64 ((EvalF (two 7 e1 e2) x).1))), (Is (.int .i64 ((EvalF (two 7 e1 e2) x).2))), (Is (.int .i64 ((EvalF (two 7 e1 e2) x).1))), (Is (.int .i64 ((EvalF (two 7 e1 e2) x).2)))]
set_option maxHeartbeats 2000000 in
set_option maxRecDepth 100000 in
theorem lc19 (x : Ev) (hok : x.ok) (e1 e2 : Ex)   (Q : Exit → Act → World → Prop) (a0 : Act) (W : World) (hsz : a0.tmps.size = 303) (g3 : (VarP 7 (ExA e1)) W (a0.eval (.tmp 3))) (g4 : (VarP 7 (ExA e2)) W (a0.eval (.tmp 4))) (g5 : (VarP 17 (Is (.agg x.cells.toArray))) W (a0.eval (.tmp 5)))
    (hQ : ∀ a1 W1, Ext W W1 → (∀ t, lc19D.contains (some t) = false → a1.eval (.tmp t) = a0.eval (.tmp t)) → a1.tmps.size = 303 → a1.defers = a0.defers → (Is (.int .i64 ((EvalF (two 7 e1 e2) x).1))) W1 (a1.eval (.tmp 27)) → (Is (.int .i64 ((EvalF (two 7 e1 e2) x).2))) W1 (a1.eval (.tmp 28)) → Q .normal a1 W1) : lcC19.wp Try.prog Q a0 W := by
  conv => arg 2; whnf
  refine wp_region_st 10 lc19D (lc19P x e1 e2 ) 303 (by kernel_rfl) (by kernel_rfl) hsz ?_ ?_ ?_
  · exact AllSt.cons ExA.st (AllSt.cons ExA.st (AllSt.cons ExA.st (AllSt.cons (Is.st _) (AllSt.cons (Is.st _) (AllSt.cons (Is.st _) (AllSt.cons (Is.st _) (AllSt.cons (Is.st _) (AllSt.cons (Is.st _) (AllSt.cons (Is.st _) (AllSt.nil))))))))))
  · simp only [List.take_succ_cons, List.take_zero]
    refine ObL.cons trivial (fun v ρ w hx hd S => op_loadV _ _ rfl _ Try.underlying26 rfl info_expr (S.out rfl ((VarP.st ExA.st) _ _ _ hx g3))) ?_
    refine ObL.cons trivial (fun v ρ w hx hd S => op_loadV _ _ rfl _ Try.underlying26 rfl info_expr (S.out rfl ((VarP.st ExA.st) _ _ _ hx g4))) ?_
    refine ObL.cons trivial (fun v ρ w hx hd S => op_pairA 7 (by constructor <;> decide) rfl S (S.dep 0 rfl (hd 0 rfl)) (S.dep 1 rfl (hd 1 rfl))) ?_
    refine ObL.cons trivial (fun v ρ w hx hd S => op_loadV _ _ rfl _ Try.underlying29 rfl info_env (S.out rfl ((VarP.st (Is.st _)) _ _ _ hx g5))) ?_
    refine ObL.cons trivial (fun v ρ w hx hd S => op_evalT x hok rfl S (S.dep 2 rfl (hd 2 rfl)) (S.dep 3 rfl (hd 3 rfl))) ?_
    refine ObL.cons trivial (fun v ρ w hx hd S => op_move (p := Is (.tuple #[.int .i64 ((EvalF (two 7 e1 e2) x).1), .int .i64 ((EvalF (two 7 e1 e2) x).2)])) (.inl rfl) (S.dep 4 rfl (hd 4 rfl))) ?_
    refine ObL.cons trivial (fun v ρ w hx hd S => op_extract rfl (S.dep 5 rfl (hd 5 rfl)) rfl) ?_
    refine ObL.cons trivial (fun v ρ w hx hd S => op_extract rfl (S.dep 5 rfl (hd 5 rfl)) rfl) ?_
    refine ObL.cons trivial (fun v ρ w hx hd S => op_move (p := Is (.int .i64 ((EvalF (two 7 e1 e2) x).1))) (.inr rfl) (S.dep 6 rfl (hd 6 rfl))) ?_
    refine ObL.cons trivial (fun v ρ w hx hd S => op_move (p := Is (.int .i64 ((EvalF (two 7 e1 e2) x).2))) (.inr rfl) (S.dep 7 rfl (hd 7 rfl))) ?_
    exact ObL.nil
  · intro v a1 w hx hPP S hs hdf
    refine stable_all (by kernel_rfl) ?_
    exact hQ a1 w hx S.o hs hdf (S.dep 8 rfl (hPP 8 (by decide))) (S.dep 9 rfl (hPP 9 (by decide)))

noncomputable def lcC20 : Code := ((Try.f6.body.bind (regionOf 20)).getD .skip)
def lc20aD : List (Option Tmp) := [some 145, some 146, some 147, some 148, some 149, some 150, some 151, some 152, some 153, some 154, some 155, some 156, some 157, some 158, some 159, some 160, some 161, some 162, some 163, some 164, some 165, some 166, some 167, some 168, some 169, some 170, some 171, some 172, some 173, some 174, some 175, some 176, some 177, some 178, some 179, some 180, some 181, some 182, some 183, some 184, some 185, some 186, some 187, some 188, some 189, some 190, some 191, some 192, some 193, some 194, some 195, some 196, some 197, some 198, some 199, some 200, some 201, some 202, some 203, some 204, some 205, some 206, some 207, some 208, some 209, some 210, some 211, some 212, some 213, some 214, some 215]
def lc20aP (x : Ev) (e1 e2 : Ex)  : List (World → Value → Prop) := [(Is (.int .i64 ((EvalF (two 3 e1 e2) x).1))), (Is (.int .i64 ((addF (EvalF e1 x).1 (EvalF e2 x).1).1))), (Is (.bool false)), (Is (.bool false)), (Is (.int .i64 ((EvalF (two 3 e1 e2) x).2))), (Is (.int .i64 ((addF (EvalF e1 x).1 (EvalF e2 x).1).2))), (Is (.bool false)), (Is (.bool false)), (Is (.bool false)), (Is (.int .i64 ((EvalF (two 5 e1 e2) x).1))), (Is (.int .i64 ((mulF (EvalF e1 x).1 (EvalF e2 x).1).1))), (Is (.bool false)), (Is (.bool false)), (Is (.bool false)), (Is (.int .i64 ((EvalF (two 5 e1 e2) x).2))), (Is (.int .i64 ((mulF (EvalF e1 x).1 (EvalF e2 x).1).2))), (Is (.bool false)), (Is (.bool false)), (Is (.bool false)), (Is (.int .i64 ((EvalF (two 4 e1 e2) x).1))), (Is (.int .i64 ((subF (EvalF e1 x).1 (EvalF e2 x).1).1))), (Is (.bool false)), (Is (.bool false)), (Is (.bool false)), (Is (.int .i64 ((EvalF (two 4 e1 e2) x).2))), (Is (.int .i64 ((subF (EvalF e1 x).1 (EvalF e2 x).1).2))), (Is (.bool false)), (Is (.bool false)), (Is (.bool false)), (Is (.int .i64 ((EvalF (two 6 e1 e2) x).2))), (Is (.bool false)), (Is (.bool false)), (Is (.bool false)), (Is (.int .i64 ((EvalF (two 7 e1 e2) x).2))), (Is (.bool false)), (Is (.bool false)), (Is (.bool false)), (Is (.int .i64 ((EvalF (two 6 e1 e2) x).1))), (Is (.int .i64 ((EvalF (two 7 e1 e2) x).1))), (Is (.bool false)), (Is (.bool false)), (Is (.bool false)), (Is (.int .i64 ((EvalF (two 6 e1 e2) x).1))), (Is (.int .i64 ((EvalF e1 x).1))), (Is (.bool false)), (Is (.bool false)), Any, Any, Any, (Is (.bool false)), (Is (.bool false)), (Is (.bool false)), (Is (.int .i64 ((EvalF (two 7 e1 e2) x).1))), (Is (.int .i64 ((EvalF e1 x).1))), (Is (.bool true)), (Is (.bool true)), (Is (.int .i64 ((EvalF (two 7 e1 e2) x).1))), (Is (.int .i64 ((EvalF e2 x).1))), (Is (.bool false)), (Is (.bool false)), (Is (.bool false)), (Is (.bool false)), (Is (.int .i64 ((EvalF e1 x).1))), (Is (.int .i64 ((EvalF e2 x).1))), (Is (.bool false)), (Is (.bool false)), Any, Any, Any, (Is (.bool false)), (Is (.bool false))]
set_option maxHeartbeats 2000000 in
set_option maxRecDepth 100000 in
theorem lc20a (x : Ev) (hok : x.ok) (e1 e2 : Ex)  (h3 : EvalF (two 3 e1 e2) x = addF (EvalF e1 x).1 (EvalF e2 x).1) (h4 : EvalF (two 4 e1 e2) x = subF (EvalF e1 x).1 (EvalF e2 x).1) (h5 : EvalF (two 5 e1 e2) x = mulF (EvalF e1 x).1 (EvalF e2 x).1) (h6 : EvalF (two 6 e1 e2) x = (min (EvalF e1 x).1 (EvalF e2 x).1, 0)) (h7 : EvalF (two 7 e1 e2) x = (max (EvalF e1 x).1 (EvalF e2 x).1, 0)) (hlt : (EvalF e1 x).1 < (EvalF e2 x).1) (Q : Exit → Act → World → Prop) (a0 : Act) (W : World) (hsz : a0.tmps.size = 303) (g7 : (Is (.int .i64 ((EvalF e1 x).1))) W (a0.eval (.tmp 7))) (g9 : (Is (.int .i64 ((EvalF e2 x).1))) W (a0.eval (.tmp 9))) (g13 : (Is (.int .i64 ((EvalF (two 3 e1 e2) x).1))) W (a0.eval (.tmp 13))) (g14 : (Is (.int .i64 ((EvalF (two 3 e1 e2) x).2))) W (a0.eval (.tmp 14))) (g15 : (Is (.int .i64 ((addF (EvalF e1 x).1 (EvalF e2 x).1).1))) W (a0.eval (.tmp 15))) (g16 : (Is (.int .i64 ((addF (EvalF e1 x).1 (EvalF e2 x).1).2))) W (a0.eval (.tmp 16))) (g17 : (Is (.int .i64 ((EvalF (two 5 e1 e2) x).1))) W (a0.eval (.tmp 17))) (g18 : (Is (.int .i64 ((EvalF (two 5 e1 e2) x).2))) W (a0.eval (.tmp 18))) (g19 : (Is (.int .i64 ((mulF (EvalF e1 x).1 (EvalF e2 x).1).1))) W (a0.eval (.tmp 19))) (g20 : (Is (.int .i64 ((mulF (EvalF e1 x).1 (EvalF e2 x).1).2))) W (a0.eval (.tmp 20))) (g21 : (Is (.int .i64 ((EvalF (two 4 e1 e2) x).1))) W (a0.eval (.tmp 21))) (g22 : (Is (.int .i64 ((EvalF (two 4 e1 e2) x).2))) W (a0.eval (.tmp 22))) (g23 : (Is (.int .i64 ((subF (EvalF e1 x).1 (EvalF e2 x).1).1))) W (a0.eval (.tmp 23))) (g24 : (Is (.int .i64 ((subF (EvalF e1 x).1 (EvalF e2 x).1).2))) W (a0.eval (.tmp 24))) (g25 : (Is (.int .i64 ((EvalF (two 6 e1 e2) x).1))) W (a0.eval (.tmp 25))) (g26 : (Is (.int .i64 ((EvalF (two 6 e1 e2) x).2))) W (a0.eval (.tmp 26))) (g27 : (Is (.int .i64 ((EvalF (two 7 e1 e2) x).1))) W (a0.eval (.tmp 27))) (g28 : (Is (.int .i64 ((EvalF (two 7 e1 e2) x).2))) W (a0.eval (.tmp 28)))
    (hQ : ∀ a1 W1, Ext W W1 → (∀ t, lc20aD.contains (some t) = false → a1.eval (.tmp t) = a0.eval (.tmp t)) → a1.tmps.size = 303 → a1.defers = a0.defers → (Is (.bool false)) W1 (a1.eval (.tmp 215)) → Q .normal a1 W1) : lcC20.wp Try.prog Q a0 W := by
  conv => arg 2; whnf
  refine wp_region_sq 71 lc20aD (lc20aP x e1 e2 ) 303 (by kernel_rfl) hsz ?_ ?_ ?_
  · exact AllSt.cons (Is.st _) (AllSt.cons (Is.st _) (AllSt.cons (Is.st _) (AllSt.cons (Is.st _) (AllSt.cons (Is.st _) (AllSt.cons (Is.st _) (AllSt.cons (Is.st _) (AllSt.cons (Is.st _) (AllSt.cons (Is.st _) (AllSt.cons (Is.st _) (AllSt.cons (Is.st _) (AllSt.cons (Is.st _) (AllSt.cons (Is.st _) (AllSt.cons (Is.st _) (AllSt.cons (Is.st _) (AllSt.cons (Is.st _) (AllSt.cons (Is.st _) (AllSt.cons (Is.st _) (AllSt.cons (Is.st _) (AllSt.cons (Is.st _) (AllSt.cons (Is.st _) (AllSt.cons (Is.st _) (AllSt.cons (Is.st _) (AllSt.cons (Is.st _) (AllSt.cons (Is.st _) (AllSt.cons (Is.st _) (AllSt.cons (Is.st _) (AllSt.cons (Is.st _) (AllSt.cons (Is.st _) (AllSt.cons (Is.st _) (AllSt.cons (Is.st _) (AllSt.cons (Is.st _) (AllSt.cons (Is.st _) (AllSt.cons (Is.st _) (AllSt.cons (Is.st _) (AllSt.cons (Is.st _) (AllSt.cons (Is.st _) (AllSt.cons (Is.st _) (AllSt.cons (Is.st _) (AllSt.cons (Is.st _) (AllSt.cons (Is.st _) (AllSt.cons (Is.st _) (AllSt.cons (Is.st _) (AllSt.cons (Is.st _) (AllSt.cons (Is.st _) (AllSt.cons (Is.st _) (AllSt.cons Any.st (AllSt.cons Any.st (AllSt.cons Any.st (AllSt.cons (Is.st _) (AllSt.cons (Is.st _) (AllSt.cons (Is.st _) (AllSt.cons (Is.st _) (AllSt.cons (Is.st _) (AllSt.cons (Is.st _) (AllSt.cons (Is.st _) (AllSt.cons (Is.st _) (AllSt.cons (Is.st _) (AllSt.cons (Is.st _) (AllSt.cons (Is.st _) (AllSt.cons (Is.st _) (AllSt.cons (Is.st _) (AllSt.cons (Is.st _) (AllSt.cons (Is.st _) (AllSt.cons (Is.st _) (AllSt.cons (Is.st _) (AllSt.cons Any.st (AllSt.cons Any.st (AllSt.cons Any.st (AllSt.cons (Is.st _) (AllSt.cons (Is.st _) (AllSt.nil)))))))))))))))))))))))))))))))))))))))))))))))))))))))))))))))))))))))
  · simp only [List.append_eq, List.cons_append, List.nil_append, List.take_succ_cons, List.take_zero]
    refine ObL.cons trivial (fun v ρ w hx hd S => op_move (p := Is (.int .i64 ((EvalF (two 3 e1 e2) x).1))) (.inl rfl) (S.out rfl ((Is.st _) _ _ _ hx g13))) ?_
    refine ObL.cons trivial (fun v ρ w hx hd S => op_move (p := Is (.int .i64 ((addF (EvalF e1 x).1 (EvalF e2 x).1).1))) (.inl rfl) (S.out rfl ((Is.st _) _ _ _ hx g15))) ?_
    refine ObL.cons trivial (fun v ρ w hx hd S => (op_neq rfl (S.dep 0 rfl (hd 0 rfl)) (S.dep 1 rfl (hd 1 rfl))).mono fun u w1 hu => ⟨hu.1, hu.2.trans (congrArg Value.bool (by rw [h3]; simp))⟩) ?_
    refine ObL.cons trivial (fun v ρ w hx hd S => op_move (p := Is (.bool false)) (.inl rfl) (S.dep 2 rfl (hd 2 rfl))) ?_
    refine ObL.cons ⟨rfl, fun w u h => h⟩ (fun v ρ w hx hd S => op_move (p := Is (.int .i64 ((EvalF (two 3 e1 e2) x).2))) (.inl rfl) (S.out rfl ((Is.st _) _ _ _ hx g14))) ?_
    refine ObL.cons ⟨rfl, fun w u h => h⟩ (fun v ρ w hx hd S => op_move (p := Is (.int .i64 ((addF (EvalF e1 x).1 (EvalF e2 x).1).2))) (.inl rfl) (S.out rfl ((Is.st _) _ _ _ hx g16))) ?_
    refine ObL.cons ⟨rfl, fun w u h => h⟩ (fun v ρ w hx hd S => (op_neq rfl (S.dep 4 rfl (hd 4 rfl)) (S.dep 5 rfl (hd 5 rfl))).mono fun u w1 hu => ⟨hu.1, hu.2.trans (congrArg Value.bool (by rw [h3]; simp))⟩) ?_
    refine ObL.cons trivial (fun v ρ w hx hd S => op_pick (p := Is (.bool false)) false rfl (S.dep 3 rfl (hd 3 rfl)) (S.dep 6 rfl (hd 6 rfl))) ?_
    refine ObL.cons trivial (fun v ρ w hx hd S => op_move (p := Is (.bool false)) (.inl rfl) (S.dep 7 rfl (hd 7 rfl))) ?_
    refine ObL.cons ⟨rfl, fun w u h => h⟩ (fun v ρ w hx hd S => op_move (p := Is (.int .i64 ((EvalF (two 5 e1 e2) x).1))) (.inl rfl) (S.out rfl ((Is.st _) _ _ _ hx g17))) ?_
    refine ObL.cons ⟨rfl, fun w u h => h⟩ (fun v ρ w hx hd S => op_move (p := Is (.int .i64 ((mulF (EvalF e1 x).1 (EvalF e2 x).1).1))) (.inl rfl) (S.out rfl ((Is.st _) _ _ _ hx g19))) ?_
    refine ObL.cons ⟨rfl, fun w u h => h⟩ (fun v ρ w hx hd S => (op_neq rfl (S.dep 9 rfl (hd 9 rfl)) (S.dep 10 rfl (hd 10 rfl))).mono fun u w1 hu => ⟨hu.1, hu.2.trans (congrArg Value.bool (by rw [h5]; simp))⟩) ?_
    refine ObL.cons trivial (fun v ρ w hx hd S => op_pick (p := Is (.bool false)) false rfl (S.dep 8 rfl (hd 8 rfl)) (S.dep 11 rfl (hd 11 rfl))) ?_
    refine ObL.cons trivial (fun v ρ w hx hd S => op_move (p := Is (.bool false)) (.inl rfl) (S.dep 12 rfl (hd 12 rfl))) ?_
    refine ObL.cons ⟨rfl, fun w u h => h⟩ (fun v ρ w hx hd S => op_move (p := Is (.int .i64 ((EvalF (two 5 e1 e2) x).2))) (.inl rfl) (S.out rfl ((Is.st _) _ _ _ hx g18))) ?_
    refine ObL.cons ⟨rfl, fun w u h => h⟩ (fun v ρ w hx hd S => op_move (p := Is (.int .i64 ((mulF (EvalF e1 x).1 (EvalF e2 x).1).2))) (.inl rfl) (S.out rfl ((Is.st _) _ _ _ hx g20))) ?_
    refine ObL.cons ⟨rfl, fun w u h => h⟩ (fun v ρ w hx hd S => (op_neq rfl (S.dep 14 rfl (hd 14 rfl)) (S.dep 15 rfl (hd 15 rfl))).mono fun u w1 hu => ⟨hu.1, hu.2.trans (congrArg Value.bool (by rw [h5]; simp))⟩) ?_
    refine ObL.cons trivial (fun v ρ w hx hd S => op_pick (p := Is (.bool false)) false rfl (S.dep 13 rfl (hd 13 rfl)) (S.dep 16 rfl (hd 16 rfl))) ?_
    refine ObL.cons trivial (fun v ρ w hx hd S => op_move (p := Is (.bool false)) (.inl rfl) (S.dep 17 rfl (hd 17 rfl))) ?_
    refine ObL.cons ⟨rfl, fun w u h => h⟩ (fun v ρ w hx hd S => op_move (p := Is (.int .i64 ((EvalF (two 4 e1 e2) x).1))) (.inl rfl) (S.out rfl ((Is.st _) _ _ _ hx g21))) ?_
    refine ObL.cons ⟨rfl, fun w u h => h⟩ (fun v ρ w hx hd S => op_move (p := Is (.int .i64 ((subF (EvalF e1 x).1 (EvalF e2 x).1).1))) (.inl rfl) (S.out rfl ((Is.st _) _ _ _ hx g23))) ?_
    refine ObL.cons ⟨rfl, fun w u h => h⟩ (fun v ρ w hx hd S => (op_neq rfl (S.dep 19 rfl (hd 19 rfl)) (S.dep 20 rfl (hd 20 rfl))).mono fun u w1 hu => ⟨hu.1, hu.2.trans (congrArg Value.bool (by rw [h4]; simp))⟩) ?_
    refine ObL.cons trivial (fun v ρ w hx hd S => op_pick (p := Is (.bool false)) false rfl (S.dep 18 rfl (hd 18 rfl)) (S.dep 21 rfl (hd 21 rfl))) ?_
    refine ObL.cons trivial (fun v ρ w hx hd S => op_move (p := Is (.bool false)) (.inl rfl) (S.dep 22 rfl (hd 22 rfl))) ?_
    refine ObL.cons ⟨rfl, fun w u h => h⟩ (fun v ρ w hx hd S => op_move (p := Is (.int .i64 ((EvalF (two 4 e1 e2) x).2))) (.inl rfl) (S.out rfl ((Is.st _) _ _ _ hx g22))) ?_
    refine ObL.cons ⟨rfl, fun w u h => h⟩ (fun v ρ w hx hd S => op_move (p := Is (.int .i64 ((subF (EvalF e1 x).1 (EvalF e2 x).1).2))) (.inl rfl) (S.out rfl ((Is.st _) _ _ _ hx g24))) ?_
    refine ObL.cons ⟨rfl, fun w u h => h⟩ (fun v ρ w hx hd S => (op_neq rfl (S.dep 24 rfl (hd 24 rfl)) (S.dep 25 rfl (hd 25 rfl))).mono fun u w1 hu => ⟨hu.1, hu.2.trans (congrArg Value.bool (by rw [h4]; simp))⟩) ?_
    refine ObL.cons trivial (fun v ρ w hx hd S => op_pick (p := Is (.bool false)) false rfl (S.dep 23 rfl (hd 23 rfl)) (S.dep 26 rfl (hd 26 rfl))) ?_
    refine ObL.cons trivial (fun v ρ w hx hd S => op_move (p := Is (.bool false)) (.inl rfl) (S.dep 27 rfl (hd 27 rfl))) ?_
    refine ObL.cons ⟨rfl, fun w u h => h⟩ (fun v ρ w hx hd S => op_move (p := Is (.int .i64 ((EvalF (two 6 e1 e2) x).2))) (.inl rfl) (S.out rfl ((Is.st _) _ _ _ hx g26))) ?_
    refine ObL.cons ⟨rfl, fun w u h => h⟩ (fun v ρ w hx hd S => (op_neq rfl (S.dep 29 rfl (hd 29 rfl)) (S.c _)).mono fun u w1 hu => ⟨hu.1, hu.2.trans (congrArg Value.bool (by rw [h6]; simp))⟩) ?_
    refine ObL.cons trivial (fun v ρ w hx hd S => op_pick (p := Is (.bool false)) false rfl (S.dep 28 rfl (hd 28 rfl)) (S.dep 30 rfl (hd 30 rfl))) ?_
    refine ObL.cons trivial (fun v ρ w hx hd S => op_move (p := Is (.bool false)) (.inl rfl) (S.dep 31 rfl (hd 31 rfl))) ?_
    refine ObL.cons ⟨rfl, fun w u h => h⟩ (fun v ρ w hx hd S => op_move (p := Is (.int .i64 ((EvalF (two 7 e1 e2) x).2))) (.inl rfl) (S.out rfl ((Is.st _) _ _ _ hx g28))) ?_
    refine ObL.cons ⟨rfl, fun w u h => h⟩ (fun v ρ w hx hd S => (op_neq rfl (S.dep 33 rfl (hd 33 rfl)) (S.c _)).mono fun u w1 hu => ⟨hu.1, hu.2.trans (congrArg Value.bool (by rw [h7]; simp))⟩) ?_
    refine ObL.cons trivial (fun v ρ w hx hd S => op_pick (p := Is (.bool false)) false rfl (S.dep 32 rfl (hd 32 rfl)) (S.dep 34 rfl (hd 34 rfl))) ?_
    refine ObL.cons trivial (fun v ρ w hx hd S => op_move (p := Is (.bool false)) (.inl rfl) (S.dep 35 rfl (hd 35 rfl))) ?_
    refine ObL.cons ⟨rfl, fun w u h => h⟩ (fun v ρ w hx hd S => op_move (p := Is (.int .i64 ((EvalF (two 6 e1 e2) x).1))) (.inl rfl) (S.out rfl ((Is.st _) _ _ _ hx g25))) ?_
    refine ObL.cons ⟨rfl, fun w u h => h⟩ (fun v ρ w hx hd S => op_move (p := Is (.int .i64 ((EvalF (two 7 e1 e2) x).1))) (.inl rfl) (S.out rfl ((Is.st _) _ _ _ hx g27))) ?_
    refine ObL.cons ⟨rfl, fun w u h => h⟩ (fun v ρ w hx hd S => (op_gtr rfl (S.dep 37 rfl (hd 37 rfl)) (S.dep 38 rfl (hd 38 rfl))).mono fun u w1 hu => ⟨hu.1, hu.2.trans (congrArg Value.bool (decide_eq_false (by rw [h6, h7]; show ¬ max _ _ < min _ _; omega)))⟩) ?_
    refine ObL.cons trivial (fun v ρ w hx hd S => op_pick (p := Is (.bool false)) false rfl (S.dep 36 rfl (hd 36 rfl)) (S.dep 39 rfl (hd 39 rfl))) ?_
    refine ObL.cons trivial (fun v ρ w hx hd S => op_move (p := Is (.bool false)) (.inl rfl) (S.dep 40 rfl (hd 40 rfl))) ?_
    refine ObL.cons ⟨rfl, fun w u h => h⟩ (fun v ρ w hx hd S => op_move (p := Is (.int .i64 ((EvalF (two 6 e1 e2) x).1))) (.inl rfl) (S.out rfl ((Is.st _) _ _ _ hx g25))) ?_
    refine ObL.cons ⟨rfl, fun w u h => h⟩ (fun v ρ w hx hd S => op_move (p := Is (.int .i64 ((EvalF e1 x).1))) (.inl rfl) (S.out rfl ((Is.st _) _ _ _ hx g7))) ?_
    refine ObL.cons ⟨rfl, fun w u h => h⟩ (fun v ρ w hx hd S => (op_neq rfl (S.dep 42 rfl (hd 42 rfl)) (S.dep 43 rfl (hd 43 rfl))).mono fun u w1 hu => ⟨hu.1, hu.2.trans (congrArg Value.bool (bne_eq_false_iff_eq.2 (by rw [h6]; show min _ _ = _; omega)))⟩) ?_
    refine ObL.cons ⟨rfl, fun w u h => h⟩ (fun v ρ w hx hd S => op_move (p := Is (.bool false)) (.inl rfl) (S.dep 44 rfl (hd 44 rfl))) ?_
    refine ObL.skip ⟨rfl, fun w u h => h, fun _ => trivial⟩ ?_
    refine ObL.skip ⟨rfl, fun w u h => h, fun _ => trivial⟩ ?_
    refine ObL.skip ⟨rfl, fun w u h => h, fun _ => trivial⟩ ?_
    refine ObL.cons ⟨rfl, fun w u h => h⟩ (fun v ρ w hx hd S => op_pick (p := Is (.bool false)) false rfl (S.dep 45 rfl (hd 45 rfl)) (S.c _)) ?_
    refine ObL.cons trivial (fun v ρ w hx hd S => op_pick (p := Is (.bool false)) false rfl (S.dep 41 rfl (hd 41 rfl)) (S.dep 49 rfl (hd 49 rfl))) ?_
    refine ObL.cons trivial (fun v ρ w hx hd S => op_move (p := Is (.bool false)) (.inl rfl) (S.dep 50 rfl (hd 50 rfl))) ?_
    refine ObL.cons ⟨rfl, fun w u h => h⟩ (fun v ρ w hx hd S => op_move (p := Is (.int .i64 ((EvalF (two 7 e1 e2) x).1))) (.inl rfl) (S.out rfl ((Is.st _) _ _ _ hx g27))) ?_
    refine ObL.cons ⟨rfl, fun w u h => h⟩ (fun v ρ w hx hd S => op_move (p := Is (.int .i64 ((EvalF e1 x).1))) (.inl rfl) (S.out rfl ((Is.st _) _ _ _ hx g7))) ?_
    refine ObL.cons ⟨rfl, fun w u h => h⟩ (fun v ρ w hx hd S => (op_neq rfl (S.dep 52 rfl (hd 52 rfl)) (S.dep 53 rfl (hd 53 rfl))).mono fun u w1 hu => ⟨hu.1, hu.2.trans (congrArg Value.bool (bne_iff_ne.2 (by rw [h7]; show max _ _ ≠ _; omega)))⟩) ?_
    refine ObL.cons ⟨rfl, fun w u h => h⟩ (fun v ρ w hx hd S => op_move (p := Is (.bool true)) (.inl rfl) (S.dep 54 rfl (hd 54 rfl))) ?_
    refine ObL.cons ⟨rfl, fun w u h => h⟩ (fun v ρ w hx hd S => op_move (p := Is (.int .i64 ((EvalF (two 7 e1 e2) x).1))) (.inl rfl) (S.out rfl ((Is.st _) _ _ _ hx g27))) ?_
    refine ObL.cons ⟨rfl, fun w u h => h⟩ (fun v ρ w hx hd S => op_move (p := Is (.int .i64 ((EvalF e2 x).1))) (.inl rfl) (S.out rfl ((Is.st _) _ _ _ hx g9))) ?_
    refine ObL.cons ⟨rfl, fun w u h => h⟩ (fun v ρ w hx hd S => (op_neq rfl (S.dep 56 rfl (hd 56 rfl)) (S.dep 57 rfl (hd 57 rfl))).mono fun u w1 hu => ⟨hu.1, hu.2.trans (congrArg Value.bool (bne_eq_false_iff_eq.2 (by rw [h7]; show max _ _ = _; omega)))⟩) ?_
    refine ObL.cons ⟨rfl, fun w u h => h⟩ (fun v ρ w hx hd S => op_pick (p := Is (.bool false)) true rfl (S.dep 55 rfl (hd 55 rfl)) (S.dep 58 rfl (hd 58 rfl))) ?_
    refine ObL.cons trivial (fun v ρ w hx hd S => op_pick (p := Is (.bool false)) false rfl (S.dep 51 rfl (hd 51 rfl)) (S.dep 59 rfl (hd 59 rfl))) ?_
    refine ObL.cons trivial (fun v ρ w hx hd S => op_move (p := Is (.bool false)) (.inl rfl) (S.dep 60 rfl (hd 60 rfl))) ?_
    refine ObL.cons ⟨rfl, fun w u h => h⟩ (fun v ρ w hx hd S => op_move (p := Is (.int .i64 ((EvalF e1 x).1))) (.inl rfl) (S.out rfl ((Is.st _) _ _ _ hx g7))) ?_
    refine ObL.cons ⟨rfl, fun w u h => h⟩ (fun v ρ w hx hd S => op_move (p := Is (.int .i64 ((EvalF e2 x).1))) (.inl rfl) (S.out rfl ((Is.st _) _ _ _ hx g9))) ?_
    refine ObL.cons ⟨rfl, fun w u h => h⟩ (fun v ρ w hx hd S => (op_eql rfl (S.dep 62 rfl (hd 62 rfl)) (S.dep 63 rfl (hd 63 rfl))).mono fun u w1 hu => ⟨hu.1, hu.2.trans (congrArg Value.bool (beq_eq_false_iff_ne.2 (by omega)))⟩) ?_
    refine ObL.cons ⟨rfl, fun w u h => h⟩ (fun v ρ w hx hd S => op_move (p := Is (.bool false)) (.inl rfl) (S.dep 64 rfl (hd 64 rfl))) ?_
    refine ObL.skip ⟨rfl, fun w u h => h, fun _ => trivial⟩ ?_
    refine ObL.skip ⟨rfl, fun w u h => h, fun _ => trivial⟩ ?_
    refine ObL.skip ⟨rfl, fun w u h => h, fun _ => trivial⟩ ?_
    refine ObL.cons ⟨rfl, fun w u h => h⟩ (fun v ρ w hx hd S => op_pick (p := Is (.bool false)) false rfl (S.dep 65 rfl (hd 65 rfl)) (S.c _)) ?_
    refine ObL.cons trivial (fun v ρ w hx hd S => op_pick (p := Is (.bool false)) false rfl (S.dep 61 rfl (hd 61 rfl)) (S.dep 69 rfl (hd 69 rfl))) ?_
    exact ObL.nil
  · intro v a1 w hx hPP S hs hdf
    refine wpList_nil ?_
    exact hQ a1 w hx S.o hs hdf (S.dep 70 rfl (hPP 70 (by decide)))

def lc20bD : List (Option Tmp) := [some 145, some 146, some 147, some 148, some 149, some 150, some 151, some 152, some 153, some 154, some 155, some 156, some 157, some 158, some 159, some 160, some 161, some 162, some 163, some 164, some 165, some 166, some 167, some 168, some 169, some 170, some 171, some 172, some 173, some 174, some 175, some 176, some 177, some 178, some 179, some 180, some 181, some 182, some 183, some 184, some 185, some 186, some 187, some 188, some 189, some 190, some 191, some 192, some 193, some 194, some 195, some 196, some 197, some 198, some 199, some 200, some 201, some 202, some 203, some 204, some 205, some 206, some 207, some 208, some 209, some 210, some 211, some 212, some 213, some 214, some 215]
def lc20bP (x : Ev) (e1 e2 : Ex)  : List (World → Value → Prop) := [(Is (.int .i64 ((EvalF (two 3 e1 e2) x).1))), (Is (.int .i64 ((addF (EvalF e1 x).1 (EvalF e2 x).1).1))), (Is (.bool false)), (Is (.bool false)), (Is (.int .i64 ((EvalF (two 3 e1 e2) x).2))), (Is (.int .i64 ((addF (EvalF e1 x).1 (EvalF e2 x).1).2))), (Is (.bool false)), (Is (.bool false)), (Is (.bool false)), (Is (.int .i64 ((EvalF (two 5 e1 e2) x).1))), (Is (.int .i64 ((mulF (EvalF e1 x).1 (EvalF e2 x).1).1))), (Is (.bool false)), (Is (.bool false)), (Is (.bool false)), (Is (.int .i64 ((EvalF (two 5 e1 e2) x).2))), (Is (.int .i64 ((mulF (EvalF e1 x).1 (EvalF e2 x).1).2))), (Is (.bool false)), (Is (.bool false)), (Is (.bool false)), (Is (.int .i64 ((EvalF (two 4 e1 e2) x).1))), (Is (.int .i64 ((subF (EvalF e1 x).1 (EvalF e2 x).1).1))), (Is (.bool false)), (Is (.bool false)), (Is (.bool false)), (Is (.int .i64 ((EvalF (two 4 e1 e2) x).2))), (Is (.int .i64 ((subF (EvalF e1 x).1 (EvalF e2 x).1).2))), (Is (.bool false)), (Is (.bool false)), (Is (.bool false)), (Is (.int .i64 ((EvalF (two 6 e1 e2) x).2))), (Is (.bool false)), (Is (.bool false)), (Is (.bool false)), (Is (.int .i64 ((EvalF (two 7 e1 e2) x).2))), (Is (.bool false)), (Is (.bool false)), (Is (.bool false)), (Is (.int .i64 ((EvalF (two 6 e1 e2) x).1))), (Is (.int .i64 ((EvalF (two 7 e1 e2) x).1))), (Is (.bool false)), (Is (.bool false)), (Is (.bool false)), (Is (.int .i64 ((EvalF (two 6 e1 e2) x).1))), (Is (.int .i64 ((EvalF e1 x).1))), (Is (.bool false)), (Is (.bool false)), Any, Any, Any, (Is (.bool false)), (Is (.bool false)), (Is (.bool false)), (Is (.int .i64 ((EvalF (two 7 e1 e2) x).1))), (Is (.int .i64 ((EvalF e1 x).1))), (Is (.bool false)), (Is (.bool false)), Any, Any, Any, (Is (.bool false)), (Is (.bool false)), (Is (.bool false)), (Is (.int .i64 ((EvalF e1 x).1))), (Is (.int .i64 ((EvalF e2 x).1))), (Is (.bool true)), (Is (.bool true)), (Is (.int .i64 ((EvalF (two 6 e1 e2) x).1))), (Is (.int .i64 ((EvalF e1 x).1))), (Is (.bool false)), (Is (.bool false)), (Is (.bool false))]
set_option maxHeartbeats 2000000 in
set_option maxRecDepth 100000 in
theorem lc20b (x : Ev) (hok : x.ok) (e1 e2 : Ex)  (h3 : EvalF (two 3 e1 e2) x = addF (EvalF e1 x).1 (EvalF e2 x).1) (h4 : EvalF (two 4 e1 e2) x = subF (EvalF e1 x).1 (EvalF e2 x).1) (h5 : EvalF (two 5 e1 e2) x = mulF (EvalF e1 x).1 (EvalF e2 x).1) (h6 : EvalF (two 6 e1 e2) x = (min (EvalF e1 x).1 (EvalF e2 x).1, 0)) (h7 : EvalF (two 7 e1 e2) x = (max (EvalF e1 x).1 (EvalF e2 x).1, 0)) (hlt : (EvalF e1 x).1 = (EvalF e2 x).1) (Q : Exit → Act → World → Prop) (a0 : Act) (W : World) (hsz : a0.tmps.size = 303) (g7 : (Is (.int .i64 ((EvalF e1 x).1))) W (a0.eval (.tmp 7))) (g9 : (Is (.int .i64 ((EvalF e2 x).1))) W (a0.eval (.tmp 9))) (g13 : (Is (.int .i64 ((EvalF (two 3 e1 e2) x).1))) W (a0.eval (.tmp 13))) (g14 : (Is (.int .i64 ((EvalF (two 3 e1 e2) x).2))) W (a0.eval (.tmp 14))) (g15 : (Is (.int .i64 ((addF (EvalF e1 x).1 (EvalF e2 x).1).1))) W (a0.eval (.tmp 15))) (g16 : (Is (.int .i64 ((addF (EvalF e1 x).1 (EvalF e2 x).1).2))) W (a0.eval (.tmp 16))) (g17 : (Is (.int .i64 ((EvalF (two 5 e1 e2) x).1))) W (a0.eval (.tmp 17))) (g18 : (Is (.int .i64 ((EvalF (two 5 e1 e2) x).2))) W (a0.eval (.tmp 18))) (g19 : (Is (.int .i64 ((mulF (EvalF e1 x).1 (EvalF e2 x).1).1))) W (a0.eval (.tmp 19))) (g20 : (Is (.int .i64 ((mulF (EvalF e1 x).1 (EvalF e2 x).1).2))) W (a0.eval (.tmp 20))) (g21 : (Is (.int .i64 ((EvalF (two 4 e1 e2) x).1))) W (a0.eval (.tmp 21))) (g22 : (Is (.int .i64 ((EvalF (two 4 e1 e2) x).2))) W (a0.eval (.tmp 22))) (g23 : (Is (.int .i64 ((subF (EvalF e1 x).1 (EvalF e2 x).1).1))) W (a0.eval (.tmp 23))) (g24 : (Is (.int .i64 ((subF (EvalF e1 x).1 (EvalF e2 x).1).2))) W (a0.eval (.tmp 24))) (g25 : (Is (.int .i64 ((EvalF (two 6 e1 e2) x).1))) W (a0.eval (.tmp 25))) (g26 : (Is (.int .i64 ((EvalF (two 6 e1 e2) x).2))) W (a0.eval (.tmp 26))) (g27 : (Is (.int .i64 ((EvalF (two 7 e1 e2) x).1))) W (a0.eval (.tmp 27))) (g28 : (Is (.int .i64 ((EvalF (two 7 e1 e2) x).2))) W (a0.eval (.tmp 28)))
    (hQ : ∀ a1 W1, Ext W W1 → (∀ t, lc20bD.contains (some t) = false → a1.eval (.tmp t) = a0.eval (.tmp t)) → a1.tmps.size = 303 → a1.defers = a0.defers → (Is (.bool false)) W1 (a1.eval (.tmp 215)) → Q .normal a1 W1) : lcC20.wp Try.prog Q a0 W := by
  conv => arg 2; whnf
  refine wp_region_sq 71 lc20bD (lc20bP x e1 e2 ) 303 (by kernel_rfl) hsz ?_ ?_ ?_
  · exact AllSt.cons (Is.st _) (AllSt.cons (Is.st _) (AllSt.cons (Is.st _) (AllSt.cons (Is.st _) (AllSt.cons (Is.st _) (AllSt.cons (Is.st _) (AllSt.cons (Is.st _) (AllSt.cons (Is.st _) (AllSt.cons (Is.st _) (AllSt.cons (Is.st _) (AllSt.cons (Is.st _) (AllSt.cons (Is.st _) (AllSt.cons (Is.st _) (AllSt.cons (Is.st _) (AllSt.cons (Is.st _) (AllSt.cons (Is.st _) (AllSt.cons (Is.st _) (AllSt.cons (Is.st _) (AllSt.cons (Is.st _) (AllSt.cons (Is.st _) (AllSt.cons (Is.st _) (AllSt.cons (Is.st _) (AllSt.cons (Is.st _) (AllSt.cons (Is.st _) (AllSt.cons (Is.st _) (AllSt.cons (Is.st _) (AllSt.cons (Is.st _) (AllSt.cons (Is.st _) (AllSt.cons (Is.st _) (AllSt.cons (Is.st _) (AllSt.cons (Is.st _) (AllSt.cons (Is.st _) (AllSt.cons (Is.st _) (AllSt.cons (Is.st _) (AllSt.cons (Is.st _) (AllSt.cons (Is.st _) (AllSt.cons (Is.st _) (AllSt.cons (Is.st _) (AllSt.cons (Is.st _) (AllSt.cons (Is.st _) (AllSt.cons (Is.st _) (AllSt.cons (Is.st _) (AllSt.cons (Is.st _) (AllSt.cons (Is.st _) (AllSt.cons (Is.st _) (AllSt.cons (Is.st _) (AllSt.cons Any.st (AllSt.cons Any.st (AllSt.cons Any.st (AllSt.cons (Is.st _) (AllSt.cons (Is.st _) (AllSt.cons (Is.st _) (AllSt.cons (Is.st _) (AllSt.cons (Is.st _) (AllSt.cons (Is.st _) (AllSt.cons (Is.st _) (AllSt.cons Any.st (AllSt.cons Any.st (AllSt.cons Any.st (AllSt.cons (Is.st _) (AllSt.cons (Is.st _) (AllSt.cons (Is.st _) (AllSt.cons (Is.st _) (AllSt.cons (Is.st _) (AllSt.cons (Is.st _) (AllSt.cons (Is.st _) (AllSt.cons (Is.st _) (AllSt.cons (Is.st _) (AllSt.cons (Is.st _) (AllSt.cons (Is.st _) (AllSt.cons (Is.st _) (AllSt.nil)))))))))))))))))))))))))))))))))))))))))))))))))))))))))))))))))))))))
  · simp only [List.append_eq, List.cons_append, List.nil_append, List.take_succ_cons, List.take_zero]
    refine ObL.cons trivial (fun v ρ w hx hd S => op_move (p := Is (.int .i64 ((EvalF (two 3 e1 e2) x).1))) (.inl rfl) (S.out rfl ((Is.st _) _ _ _ hx g13))) ?_
    refine ObL.cons trivial (fun v ρ w hx hd S => op_move (p := Is (.int .i64 ((addF (EvalF e1 x).1 (EvalF e2 x).1).1))) (.inl rfl) (S.out rfl ((Is.st _) _ _ _ hx g15))) ?_
    refine ObL.cons trivial (fun v ρ w hx hd S => (op_neq rfl (S.dep 0 rfl (hd 0 rfl)) (S.dep 1 rfl (hd 1 rfl))).mono fun u w1 hu => ⟨hu.1, hu.2.trans (congrArg Value.bool (by rw [h3]; simp))⟩) ?_
    refine ObL.cons trivial (fun v ρ w hx hd S => op_move (p := Is (.bool false)) (.inl rfl) (S.dep 2 rfl (hd 2 rfl))) ?_
    refine ObL.cons ⟨rfl, fun w u h => h⟩ (fun v ρ w hx hd S => op_move (p := Is (.int .i64 ((EvalF (two 3 e1 e2) x).2))) (.inl rfl) (S.out rfl ((Is.st _) _ _ _ hx g14))) ?_
    refine ObL.cons ⟨rfl, fun w u h => h⟩ (fun v ρ w hx hd S => op_move (p := Is (.int .i64 ((addF (EvalF e1 x).1 (EvalF e2 x).1).2))) (.inl rfl) (S.out rfl ((Is.st _) _ _ _ hx g16))) ?_
    refine ObL.cons ⟨rfl, fun w u h => h⟩ (fun v ρ w hx hd S => (op_neq rfl (S.dep 4 rfl (hd 4 rfl)) (S.dep 5 rfl (hd 5 rfl))).mono fun u w1 hu => ⟨hu.1, hu.2.trans (congrArg Value.bool (by rw [h3]; simp))⟩) ?_
    refine ObL.cons trivial (fun v ρ w hx hd S => op_pick (p := Is (.bool false)) false rfl (S.dep 3 rfl (hd 3 rfl)) (S.dep 6 rfl (hd 6 rfl))) ?_
    refine ObL.cons trivial (fun v ρ w hx hd S => op_move (p := Is (.bool false)) (.inl rfl) (S.dep 7 rfl (hd 7 rfl))) ?_
    refine ObL.cons ⟨rfl, fun w u h => h⟩ (fun v ρ w hx hd S => op_move (p := Is (.int .i64 ((EvalF (two 5 e1 e2) x).1))) (.inl rfl) (S.out rfl ((Is.st _) _ _ _ hx g17))) ?_
    refine ObL.cons ⟨rfl, fun w u h => h⟩ (fun v ρ w hx hd S => op_move (p := Is (.int .i64 ((mulF (EvalF e1 x).1 (EvalF e2 x).1).1))) (.inl rfl) (S.out rfl ((Is.st _) _ _ _ hx g19))) ?_
    refine ObL.cons ⟨rfl, fun w u h => h⟩ (fun v ρ w hx hd S => (op_neq rfl (S.dep 9 rfl (hd 9 rfl)) (S.dep 10 rfl (hd 10 rfl))).mono fun u w1 hu => ⟨hu.1, hu.2.trans (congrArg Value.bool (by rw [h5]; simp))⟩) ?_
    refine ObL.cons trivial (fun v ρ w hx hd S => op_pick (p := Is (.bool false)) false rfl (S.dep 8 rfl (hd 8 rfl)) (S.dep 11 rfl (hd 11 rfl))) ?_
    refine ObL.cons trivial (fun v ρ w hx hd S => op_move (p := Is (.bool false)) (.inl rfl) (S.dep 12 rfl (hd 12 rfl))) ?_
    refine ObL.cons ⟨rfl, fun w u h => h⟩ (fun v ρ w hx hd S => op_move (p := Is (.int .i64 ((EvalF (two 5 e1 e2) x).2))) (.inl rfl) (S.out rfl ((Is.st _) _ _ _ hx g18))) ?_
    refine ObL.cons ⟨rfl, fun w u h => h⟩ (fun v ρ w hx hd S => op_move (p := Is (.int .i64 ((mulF (EvalF e1 x).1 (EvalF e2 x).1).2))) (.inl rfl) (S.out rfl ((Is.st _) _ _ _ hx g20))) ?_
    refine ObL.cons ⟨rfl, fun w u h => h⟩ (fun v ρ w hx hd S => (op_neq rfl (S.dep 14 rfl (hd 14 rfl)) (S.dep 15 rfl (hd 15 rfl))).mono fun u w1 hu => ⟨hu.1, hu.2.trans (congrArg Value.bool (by rw [h5]; simp))⟩) ?_
    refine ObL.cons trivial (fun v ρ w hx hd S => op_pick (p := Is (.bool false)) false rfl (S.dep 13 rfl (hd 13 rfl)) (S.dep 16 rfl (hd 16 rfl))) ?_
    refine ObL.cons trivial (fun v ρ w hx hd S => op_move (p := Is (.bool false)) (.inl rfl) (S.dep 17 rfl (hd 17 rfl))) ?_
    refine ObL.cons ⟨rfl, fun w u h => h⟩ (fun v ρ w hx hd S => op_move (p := Is (.int .i64 ((EvalF (two 4 e1 e2) x).1))) (.inl rfl) (S.out rfl ((Is.st _) _ _ _ hx g21))) ?_
    refine ObL.cons ⟨rfl, fun w u h => h⟩ (fun v ρ w hx hd S => op_move (p := Is (.int .i64 ((subF (EvalF e1 x).1 (EvalF e2 x).1).1))) (.inl rfl) (S.out rfl ((Is.st _) _ _ _ hx g23))) ?_
    refine ObL.cons ⟨rfl, fun w u h => h⟩ (fun v ρ w hx hd S => (op_neq rfl (S.dep 19 rfl (hd 19 rfl)) (S.dep 20 rfl (hd 20 rfl))).mono fun u w1 hu => ⟨hu.1, hu.2.trans (congrArg Value.bool (by rw [h4]; simp))⟩) ?_
    refine ObL.cons trivial (fun v ρ w hx hd S => op_pick (p := Is (.bool false)) false rfl (S.dep 18 rfl (hd 18 rfl)) (S.dep 21 rfl (hd 21 rfl))) ?_
    refine ObL.cons trivial (fun v ρ w hx hd S => op_move (p := Is (.bool false)) (.inl rfl) (S.dep 22 rfl (hd 22 rfl))) ?_
    refine ObL.cons ⟨rfl, fun w u h => h⟩ (fun v ρ w hx hd S => op_move (p := Is (.int .i64 ((EvalF (two 4 e1 e2) x).2))) (.inl rfl) (S.out rfl ((Is.st _) _ _ _ hx g22))) ?_
    refine ObL.cons ⟨rfl, fun w u h => h⟩ (fun v ρ w hx hd S => op_move (p := Is (.int .i64 ((subF (EvalF e1 x).1 (EvalF e2 x).1).2))) (.inl rfl) (S.out rfl ((Is.st _) _ _ _ hx g24))) ?_
    refine ObL.cons ⟨rfl, fun w u h => h⟩ (fun v ρ w hx hd S => (op_neq rfl (S.dep 24 rfl (hd 24 rfl)) (S.dep 25 rfl (hd 25 rfl))).mono fun u w1 hu => ⟨hu.1, hu.2.trans (congrArg Value.bool (by rw [h4]; simp))⟩) ?_
    refine ObL.cons trivial (fun v ρ w hx hd S => op_pick (p := Is (.bool false)) false rfl (S.dep 23 rfl (hd 23 rfl)) (S.dep 26 rfl (hd 26 rfl))) ?_
    refine ObL.cons trivial (fun v ρ w hx hd S => op_move (p := Is (.bool false)) (.inl rfl) (S.dep 27 rfl (hd 27 rfl))) ?_
    refine ObL.cons ⟨rfl, fun w u h => h⟩ (fun v ρ w hx hd S => op_move (p := Is (.int .i64 ((EvalF (two 6 e1 e2) x).2))) (.inl rfl) (S.out rfl ((Is.st _) _ _ _ hx g26))) ?_
    refine ObL.cons ⟨rfl, fun w u h => h⟩ (fun v ρ w hx hd S => (op_neq rfl (S.dep 29 rfl (hd 29 rfl)) (S.c _)).mono fun u w1 hu => ⟨hu.1, hu.2.trans (congrArg Value.bool (by rw [h6]; simp))⟩) ?_
    refine ObL.cons trivial (fun v ρ w hx hd S => op_pick (p := Is (.bool false)) false rfl (S.dep 28 rfl (hd 28 rfl)) (S.dep 30 rfl (hd 30 rfl))) ?_
    refine ObL.cons trivial (fun v ρ w hx hd S => op_move (p := Is (.bool false)) (.inl rfl) (S.dep 31 rfl (hd 31 rfl))) ?_
    refine ObL.cons ⟨rfl, fun w u h => h⟩ (fun v ρ w hx hd S => op_move (p := Is (.int .i64 ((EvalF (two 7 e1 e2) x).2))) (.inl rfl) (S.out rfl ((Is.st _) _ _ _ hx g28))) ?_
    refine ObL.cons ⟨rfl, fun w u h => h⟩ (fun v ρ w hx hd S => (op_neq rfl (S.dep 33 rfl (hd 33 rfl)) (S.c _)).mono fun u w1 hu => ⟨hu.1, hu.2.trans (congrArg Value.bool (by rw [h7]; simp))⟩) ?_
    refine ObL.cons trivial (fun v ρ w hx hd S => op_pick (p := Is (.bool false)) false rfl (S.dep 32 rfl (hd 32 rfl)) (S.dep 34 rfl (hd 34 rfl))) ?_
    refine ObL.cons trivial (fun v ρ w hx hd S => op_move (p := Is (.bool false)) (.inl rfl) (S.dep 35 rfl (hd 35 rfl))) ?_
    refine ObL.cons ⟨rfl, fun w u h => h⟩ (fun v ρ w hx hd S => op_move (p := Is (.int .i64 ((EvalF (two 6 e1 e2) x).1))) (.inl rfl) (S.out rfl ((Is.st _) _ _ _ hx g25))) ?_
    refine ObL.cons ⟨rfl, fun w u h => h⟩ (fun v ρ w hx hd S => op_move (p := Is (.int .i64 ((EvalF (two 7 e1 e2) x).1))) (.inl rfl) (S.out rfl ((Is.st _) _ _ _ hx g27))) ?_
    refine ObL.cons ⟨rfl, fun w u h => h⟩ (fun v ρ w hx hd S => (op_gtr rfl (S.dep 37 rfl (hd 37 rfl)) (S.dep 38 rfl (hd 38 rfl))).mono fun u w1 hu => ⟨hu.1, hu.2.trans (congrArg Value.bool (decide_eq_false (by rw [h6, h7]; show ¬ max _ _ < min _ _; omega)))⟩) ?_
    refine ObL.cons trivial (fun v ρ w hx hd S => op_pick (p := Is (.bool false)) false rfl (S.dep 36 rfl (hd 36 rfl)) (S.dep 39 rfl (hd 39 rfl))) ?_
    refine ObL.cons trivial (fun v ρ w hx hd S => op_move (p := Is (.bool false)) (.inl rfl) (S.dep 40 rfl (hd 40 rfl))) ?_
    refine ObL.cons ⟨rfl, fun w u h => h⟩ (fun v ρ w hx hd S => op_move (p := Is (.int .i64 ((EvalF (two 6 e1 e2) x).1))) (.inl rfl) (S.out rfl ((Is.st _) _ _ _ hx g25))) ?_
    refine ObL.cons ⟨rfl, fun w u h => h⟩ (fun v ρ w hx hd S => op_move (p := Is (.int .i64 ((EvalF e1 x).1))) (.inl rfl) (S.out rfl ((Is.st _) _ _ _ hx g7))) ?_
    refine ObL.cons ⟨rfl, fun w u h => h⟩ (fun v ρ w hx hd S => (op_neq rfl (S.dep 42 rfl (hd 42 rfl)) (S.dep 43 rfl (hd 43 rfl))).mono fun u w1 hu => ⟨hu.1, hu.2.trans (congrArg Value.bool (bne_eq_false_iff_eq.2 (by rw [h6]; show min _ _ = _; omega)))⟩) ?_
    refine ObL.cons ⟨rfl, fun w u h => h⟩ (fun v ρ w hx hd S => op_move (p := Is (.bool false)) (.inl rfl) (S.dep 44 rfl (hd 44 rfl))) ?_
    refine ObL.skip ⟨rfl, fun w u h => h, fun _ => trivial⟩ ?_
    refine ObL.skip ⟨rfl, fun w u h => h, fun _ => trivial⟩ ?_
    refine ObL.skip ⟨rfl, fun w u h => h, fun _ => trivial⟩ ?_
    refine ObL.cons ⟨rfl, fun w u h => h⟩ (fun v ρ w hx hd S => op_pick (p := Is (.bool false)) false rfl (S.dep 45 rfl (hd 45 rfl)) (S.c _)) ?_
    refine ObL.cons trivial (fun v ρ w hx hd S => op_pick (p := Is (.bool false)) false rfl (S.dep 41 rfl (hd 41 rfl)) (S.dep 49 rfl (hd 49 rfl))) ?_
    refine ObL.cons trivial (fun v ρ w hx hd S => op_move (p := Is (.bool false)) (.inl rfl) (S.dep 50 rfl (hd 50 rfl))) ?_
    refine ObL.cons ⟨rfl, fun w u h => h⟩ (fun v ρ w hx hd S => op_move (p := Is (.int .i64 ((EvalF (two 7 e1 e2) x).1))) (.inl rfl) (S.out rfl ((Is.st _) _ _ _ hx g27))) ?_
    refine ObL.cons ⟨rfl, fun w u h => h⟩ (fun v ρ w hx hd S => op_move (p := Is (.int .i64 ((EvalF e1 x).1))) (.inl rfl) (S.out rfl ((Is.st _) _ _ _ hx g7))) ?_
    refine ObL.cons ⟨rfl, fun w u h => h⟩ (fun v ρ w hx hd S => (op_neq rfl (S.dep 52 rfl (hd 52 rfl)) (S.dep 53 rfl (hd 53 rfl))).mono fun u w1 hu => ⟨hu.1, hu.2.trans (congrArg Value.bool (bne_eq_false_iff_eq.2 (by rw [h7]; show max _ _ = _; omega)))⟩) ?_
    refine ObL.cons ⟨rfl, fun w u h => h⟩ (fun v ρ w hx hd S => op_move (p := Is (.bool false)) (.inl rfl) (S.dep 54 rfl (hd 54 rfl))) ?_
    refine ObL.skip ⟨rfl, fun w u h => h, fun _ => trivial⟩ ?_
    refine ObL.skip ⟨rfl, fun w u h => h, fun _ => trivial⟩ ?_
    refine ObL.skip ⟨rfl, fun w u h => h, fun _ => trivial⟩ ?_
    refine ObL.cons ⟨rfl, fun w u h => h⟩ (fun v ρ w hx hd S => op_pick (p := Is (.bool false)) false rfl (S.dep 55 rfl (hd 55 rfl)) (S.c _)) ?_
    refine ObL.cons trivial (fun v ρ w hx hd S => op_pick (p := Is (.bool false)) false rfl (S.dep 51 rfl (hd 51 rfl)) (S.dep 59 rfl (hd 59 rfl))) ?_
    refine ObL.cons trivial (fun v ρ w hx hd S => op_move (p := Is (.bool false)) (.inl rfl) (S.dep 60 rfl (hd 60 rfl))) ?_
    refine ObL.cons ⟨rfl, fun w u h => h⟩ (fun v ρ w hx hd S => op_move (p := Is (.int .i64 ((EvalF e1 x).1))) (.inl rfl) (S.out rfl ((Is.st _) _ _ _ hx g7))) ?_
    refine ObL.cons ⟨rfl, fun w u h => h⟩ (fun v ρ w hx hd S => op_move (p := Is (.int .i64 ((EvalF e2 x).1))) (.inl rfl) (S.out rfl ((Is.st _) _ _ _ hx g9))) ?_
    refine ObL.cons ⟨rfl, fun w u h => h⟩ (fun v ρ w hx hd S => (op_eql rfl (S.dep 62 rfl (hd 62 rfl)) (S.dep 63 rfl (hd 63 rfl))).mono fun u w1 hu => ⟨hu.1, hu.2.trans (congrArg Value.bool (beq_iff_eq.2 (by omega)))⟩) ?_
    refine ObL.cons ⟨rfl, fun w u h => h⟩ (fun v ρ w hx hd S => op_move (p := Is (.bool true)) (.inl rfl) (S.dep 64 rfl (hd 64 rfl))) ?_
    refine ObL.cons ⟨rfl, fun w u h => h⟩ (fun v ρ w hx hd S => op_move (p := Is (.int .i64 ((EvalF (two 6 e1 e2) x).1))) (.inl rfl) (S.out rfl ((Is.st _) _ _ _ hx g25))) ?_
    refine ObL.cons ⟨rfl, fun w u h => h⟩ (fun v ρ w hx hd S => op_move (p := Is (.int .i64 ((EvalF e1 x).1))) (.inl rfl) (S.out rfl ((Is.st _) _ _ _ hx g7))) ?_
    refine ObL.cons ⟨rfl, fun w u h => h⟩ (fun v ρ w hx hd S => (op_neq rfl (S.dep 66 rfl (hd 66 rfl)) (S.dep 67 rfl (hd 67 rfl))).mono fun u w1 hu => ⟨hu.1, hu.2.trans (congrArg Value.bool (bne_eq_false_iff_eq.2 (by rw [h6]; show min _ _ = _; omega)))⟩) ?_
    refine ObL.cons ⟨rfl, fun w u h => h⟩ (fun v ρ w hx hd S => op_pick (p := Is (.bool false)) true rfl (S.dep 65 rfl (hd 65 rfl)) (S.dep 68 rfl (hd 68 rfl))) ?_
    refine ObL.cons trivial (fun v ρ w hx hd S => op_pick (p := Is (.bool false)) false rfl (S.dep 61 rfl (hd 61 rfl)) (S.dep 69 rfl (hd 69 rfl))) ?_
    exact ObL.nil
  · intro v a1 w hx hPP S hs hdf
    refine wpList_nil ?_
    exact hQ a1 w hx S.o hs hdf (S.dep 70 rfl (hPP 70 (by decide)))

def lc20cD : List (Option Tmp) := [some 145, some 146, some 147, some 148, some 149, some 150, some 151, some 152, some 153, some 154, some 155, some 156, some 157, some 158, some 159, some 160, some 161, some 162, some 163, some 164, some 165, some 166, some 167, some 168, some 169, some 170, some 171, some 172, some 173, some 174, some 175, some 176, some 177, some 178, some 179, some 180, some 181, some 182, some 183, some 184, some 185, some 186, some 187, some 188, some 189, some 190, some 191, some 192, some 193, some 194, some 195, some 196, some 197, some 198, some 199, some 200, some 201, some 202, some 203, some 204, some 205, some 206, some 207, some 208, some 209, some 210, some 211, some 212, some 213, some 214, some 215]
def lc20cP (x : Ev) (e1 e2 : Ex)  : List (World → Value → Prop) := [(Is (.int .i64 ((EvalF (two 3 e1 e2) x).1))), (Is (.int .i64 ((addF (EvalF e1 x).1 (EvalF e2 x).1).1))), (Is (.bool false)), (Is (.bool false)), (Is (.int .i64 ((EvalF (two 3 e1 e2) x).2))), (Is (.int .i64 ((addF (EvalF e1 x).1 (EvalF e2 x).1).2))), (Is (.bool false)), (Is (.bool false)), (Is (.bool false)), (Is (.int .i64 ((EvalF (two 5 e1 e2) x).1))), (Is (.int .i64 ((mulF (EvalF e1 x).1 (EvalF e2 x).1).1))), (Is (.bool false)), (Is (.bool false)), (Is (.bool false)), (Is (.int .i64 ((EvalF (two 5 e1 e2) x).2))), (Is (.int .i64 ((mulF (EvalF e1 x).1 (EvalF e2 x).1).2))), (Is (.bool false)), (Is (.bool false)), (Is (.bool false)), (Is (.int .i64 ((EvalF (two 4 e1 e2) x).1))), (Is (.int .i64 ((subF (EvalF e1 x).1 (EvalF e2 x).1).1))), (Is (.bool false)), (Is (.bool false)), (Is (.bool false)), (Is (.int .i64 ((EvalF (two 4 e1 e2) x).2))), (Is (.int .i64 ((subF (EvalF e1 x).1 (EvalF e2 x).1).2))), (Is (.bool false)), (Is (.bool false)), (Is (.bool false)), (Is (.int .i64 ((EvalF (two 6 e1 e2) x).2))), (Is (.bool false)), (Is (.bool false)), (Is (.bool false)), (Is (.int .i64 ((EvalF (two 7 e1 e2) x).2))), (Is (.bool false)), (Is (.bool false)), (Is (.bool false)), (Is (.int .i64 ((EvalF (two 6 e1 e2) x).1))), (Is (.int .i64 ((EvalF (two 7 e1 e2) x).1))), (Is (.bool false)), (Is (.bool false)), (Is (.bool false)), (Is (.int .i64 ((EvalF (two 6 e1 e2) x).1))), (Is (.int .i64 ((EvalF e1 x).1))), (Is (.bool true)), (Is (.bool true)), (Is (.int .i64 ((EvalF (two 6 e1 e2) x).1))), (Is (.int .i64 ((EvalF e2 x).1))), (Is (.bool false)), (Is (.bool false)), (Is (.bool false)), (Is (.bool false)), (Is (.int .i64 ((EvalF (two 7 e1 e2) x).1))), (Is (.int .i64 ((EvalF e1 x).1))), (Is (.bool false)), (Is (.bool false)), Any, Any, Any, (Is (.bool false)), (Is (.bool false)), (Is (.bool false)), (Is (.int .i64 ((EvalF e1 x).1))), (Is (.int .i64 ((EvalF e2 x).1))), (Is (.bool false)), (Is (.bool false)), Any, Any, Any, (Is (.bool false)), (Is (.bool false))]
set_option maxHeartbeats 2000000 in
set_option maxRecDepth 100000 in
theorem lc20c (x : Ev) (hok : x.ok) (e1 e2 : Ex)  (h3 : EvalF (two 3 e1 e2) x = addF (EvalF e1 x).1 (EvalF e2 x).1) (h4 : EvalF (two 4 e1 e2) x = subF (EvalF e1 x).1 (EvalF e2 x).1) (h5 : EvalF (two 5 e1 e2) x = mulF (EvalF e1 x).1 (EvalF e2 x).1) (h6 : EvalF (two 6 e1 e2) x = (min (EvalF e1 x).1 (EvalF e2 x).1, 0)) (h7 : EvalF (two 7 e1 e2) x = (max (EvalF e1 x).1 (EvalF e2 x).1, 0)) (hlt : (EvalF e2 x).1 < (EvalF e1 x).1) (Q : Exit → Act → World → Prop) (a0 : Act) (W : World) (hsz : a0.tmps.size = 303) (g7 : (Is (.int .i64 ((EvalF e1 x).1))) W (a0.eval (.tmp 7))) (g9 : (Is (.int .i64 ((EvalF e2 x).1))) W (a0.eval (.tmp 9))) (g13 : (Is (.int .i64 ((EvalF (two 3 e1 e2) x).1))) W (a0.eval (.tmp 13))) (g14 : (Is (.int .i64 ((EvalF (two 3 e1 e2) x).2))) W (a0.eval (.tmp 14))) (g15 : (Is (.int .i64 ((addF (EvalF e1 x).1 (EvalF e2 x).1).1))) W (a0.eval (.tmp 15))) (g16 : (Is (.int .i64 ((addF (EvalF e1 x).1 (EvalF e2 x).1).2))) W (a0.eval (.tmp 16))) (g17 : (Is (.int .i64 ((EvalF (two 5 e1 e2) x).1))) W (a0.eval (.tmp 17))) (g18 : (Is (.int .i64 ((EvalF (two 5 e1 e2) x).2))) W (a0.eval (.tmp 18))) (g19 : (Is (.int .i64 ((mulF (EvalF e1 x).1 (EvalF e2 x).1).1))) W (a0.eval (.tmp 19))) (g20 : (Is (.int .i64 ((mulF (EvalF e1 x).1 (EvalF e2 x).1).2))) W (a0.eval (.tmp 20))) (g21 : (Is (.int .i64 ((EvalF (two 4 e1 e2) x).1))) W (a0.eval (.tmp 21))) (g22 : (Is (.int .i64 ((EvalF (two 4 e1 e2) x).2))) W (a0.eval (.tmp 22))) (g23 : (Is (.int .i64 ((subF (EvalF e1 x).1 (EvalF e2 x).1).1))) W (a0.eval (.tmp 23))) (g24 : (Is (.int .i64 ((subF (EvalF e1 x).1 (EvalF e2 x).1).2))) W (a0.eval (.tmp 24))) (g25 : (Is (.int .i64 ((EvalF (two 6 e1 e2) x).1))) W (a0.eval (.tmp 25))) (g26 : (Is (.int .i64 ((EvalF (two 6 e1 e2) x).2))) W (a0.eval (.tmp 26))) (g27 : (Is (.int .i64 ((EvalF (two 7 e1 e2) x).1))) W (a0.eval (.tmp 27))) (g28 : (Is (.int .i64 ((EvalF (two 7 e1 e2) x).2))) W (a0.eval (.tmp 28)))
    (hQ : ∀ a1 W1, Ext W W1 → (∀ t, lc20cD.contains (some t) = false → a1.eval (.tmp t) = a0.eval (.tmp t)) → a1.tmps.size = 303 → a1.defers = a0.defers → (Is (.bool false)) W1 (a1.eval (.tmp 215)) → Q .normal a1 W1) : lcC20.wp Try.prog Q a0 W := by
  conv => arg 2; whnf
  refine wp_region_sq 71 lc20cD (lc20cP x e1 e2 ) 303 (by kernel_rfl) hsz ?_ ?_ ?_
  · exact AllSt.cons (Is.st _) (AllSt.cons (Is.st _) (AllSt.cons (Is.st _) (AllSt.cons (Is.st _) (AllSt.cons (Is.st _) (AllSt.cons (Is.st _) (AllSt.cons (Is.st _) (AllSt.cons (Is.st _) (AllSt.cons (Is.st _) (AllSt.cons (Is.st _) (AllSt.cons (Is.st _) (AllSt.cons (Is.st _) (AllSt.cons (Is.st _) (AllSt.cons (Is.st _) (AllSt.cons (Is.st _) (AllSt.cons (Is.st _) (AllSt.cons (Is.st _) (AllSt.cons (Is.st _) (AllSt.cons (Is.st _) (AllSt.cons (Is.st _) (AllSt.cons (Is.st _) (AllSt.cons (Is.st _) (AllSt.cons (Is.st _) (AllSt.cons (Is.st _) (AllSt.cons (Is.st _) (AllSt.cons (Is.st _) (AllSt.cons (Is.st _) (AllSt.cons (Is.st _) (AllSt.cons (Is.st _) (AllSt.cons (Is.st _) (AllSt.cons (Is.st _) (AllSt.cons (Is.st _) (AllSt.cons (Is.st _) (AllSt.cons (Is.st _) (AllSt.cons (Is.st _) (AllSt.cons (Is.st _) (AllSt.cons (Is.st _) (AllSt.cons (Is.st _) (AllSt.cons (Is.st _) (AllSt.cons (Is.st _) (AllSt.cons (Is.st _) (AllSt.cons (Is.st _) (AllSt.cons (Is.st _) (AllSt.cons (Is.st _) (AllSt.cons (Is.st _) (AllSt.cons (Is.st _) (AllSt.cons (Is.st _) (AllSt.cons (Is.st _) (AllSt.cons (Is.st _) (AllSt.cons (Is.st _) (AllSt.cons (Is.st _) (AllSt.cons (Is.st _) (AllSt.cons (Is.st _) (AllSt.cons (Is.st _) (AllSt.cons (Is.st _) (AllSt.cons (Is.st _) (AllSt.cons Any.st (AllSt.cons Any.st (AllSt.cons Any.st (AllSt.cons (Is.st _) (AllSt.cons (Is.st _) (AllSt.cons (Is.st _) (AllSt.cons (Is.st _) (AllSt.cons (Is.st _) (AllSt.cons (Is.st _) (AllSt.cons (Is.st _) (AllSt.cons Any.st (AllSt.cons Any.st (AllSt.cons Any.st (AllSt.cons (Is.st _) (AllSt.cons (Is.st _) (AllSt.nil)))))))))))))))))))))))))))))))))))))))))))))))))))))))))))))))))))))))
  · simp only [List.append_eq, List.cons_append, List.nil_append, List.take_succ_cons, List.take_zero]
    refine ObL.cons trivial (fun v ρ w hx hd S => op_move (p := Is (.int .i64 ((EvalF (two 3 e1 e2) x).1))) (.inl rfl) (S.out rfl ((Is.st _) _ _ _ hx g13))) ?_
    refine ObL.cons trivial (fun v ρ w hx hd S => op_move (p := Is (.int .i64 ((addF (EvalF e1 x).1 (EvalF e2 x).1).1))) (.inl rfl) (S.out rfl ((Is.st _) _ _ _ hx g15))) ?_
    refine ObL.cons trivial (fun v ρ w hx hd S => (op_neq rfl (S.dep 0 rfl (hd 0 rfl)) (S.dep 1 rfl (hd 1 rfl))).mono fun u w1 hu => ⟨hu.1, hu.2.trans (congrArg Value.bool (by rw [h3]; simp))⟩) ?_
    refine ObL.cons trivial (fun v ρ w hx hd S => op_move (p := Is (.bool false)) (.inl rfl) (S.dep 2 rfl (hd 2 rfl))) ?_
    refine ObL.cons ⟨rfl, fun w u h => h⟩ (fun v ρ w hx hd S => op_move (p := Is (.int .i64 ((EvalF (two 3 e1 e2) x).2))) (.inl rfl) (S.out rfl ((Is.st _) _ _ _ hx g14))) ?_
    refine ObL.cons ⟨rfl, fun w u h => h⟩ (fun v ρ w hx hd S => op_move (p := Is (.int .i64 ((addF (EvalF e1 x).1 (EvalF e2 x).1).2))) (.inl rfl) (S.out rfl ((Is.st _) _ _ _ hx g16))) ?_
    refine ObL.cons ⟨rfl, fun w u h => h⟩ (fun v ρ w hx hd S => (op_neq rfl (S.dep 4 rfl (hd 4 rfl)) (S.dep 5 rfl (hd 5 rfl))).mono fun u w1 hu => ⟨hu.1, hu.2.trans (congrArg Value.bool (by rw [h3]; simp))⟩) ?_
    refine ObL.cons trivial (fun v ρ w hx hd S => op_pick (p := Is (.bool false)) false rfl (S.dep 3 rfl (hd 3 rfl)) (S.dep 6 rfl (hd 6 rfl))) ?_
    refine ObL.cons trivial (fun v ρ w hx hd S => op_move (p := Is (.bool false)) (.inl rfl) (S.dep 7 rfl (hd 7 rfl))) ?_
    refine ObL.cons ⟨rfl, fun w u h => h⟩ (fun v ρ w hx hd S => op_move (p := Is (.int .i64 ((EvalF (two 5 e1 e2) x).1))) (.inl rfl) (S.out rfl ((Is.st _) _ _ _ hx g17))) ?_
    refine ObL.cons ⟨rfl, fun w u h => h⟩ (fun v ρ w hx hd S => op_move (p := Is (.int .i64 ((mulF (EvalF e1 x).1 (EvalF e2 x).1).1))) (.inl rfl) (S.out rfl ((Is.st _) _ _ _ hx g19))) ?_
    refine ObL.cons ⟨rfl, fun w u h => h⟩ (fun v ρ w hx hd S => (op_neq rfl (S.dep 9 rfl (hd 9 rfl)) (S.dep 10 rfl (hd 10 rfl))).mono fun u w1 hu => ⟨hu.1, hu.2.trans (congrArg Value.bool (by rw [h5]; simp))⟩) ?_
    refine ObL.cons trivial (fun v ρ w hx hd S => op_pick (p := Is (.bool false)) false rfl (S.dep 8 rfl (hd 8 rfl)) (S.dep 11 rfl (hd 11 rfl))) ?_
    refine ObL.cons trivial (fun v ρ w hx hd S => op_move (p := Is (.bool false)) (.inl rfl) (S.dep 12 rfl (hd 12 rfl))) ?_
    refine ObL.cons ⟨rfl, fun w u h => h⟩ (fun v ρ w hx hd S => op_move (p := Is (.int .i64 ((EvalF (two 5 e1 e2) x).2))) (.inl rfl) (S.out rfl ((Is.st _) _ _ _ hx g18))) ?_
    refine ObL.cons ⟨rfl, fun w u h => h⟩ (fun v ρ w hx hd S => op_move (p := Is (.int .i64 ((mulF (EvalF e1 x).1 (EvalF e2 x).1).2))) (.inl rfl) (S.out rfl ((Is.st _) _ _ _ hx g20))) ?_
    refine ObL.cons ⟨rfl, fun w u h => h⟩ (fun v ρ w hx hd S => (op_neq rfl (S.dep 14 rfl (hd 14 rfl)) (S.dep 15 rfl (hd 15 rfl))).mono fun u w1 hu => ⟨hu.1, hu.2.trans (congrArg Value.bool (by rw [h5]; simp))⟩) ?_
    refine ObL.cons trivial (fun v ρ w hx hd S => op_pick (p := Is (.bool false)) false rfl (S.dep 13 rfl (hd 13 rfl)) (S.dep 16 rfl (hd 16 rfl))) ?_
    refine ObL.cons trivial (fun v ρ w hx hd S => op_move (p := Is (.bool false)) (.inl rfl) (S.dep 17 rfl (hd 17 rfl))) ?_
    refine ObL.cons ⟨rfl, fun w u h => h⟩ (fun v ρ w hx hd S => op_move (p := Is (.int .i64 ((EvalF (two 4 e1 e2) x).1))) (.inl rfl) (S.out rfl ((Is.st _) _ _ _ hx g21))) ?_
    refine ObL.cons ⟨rfl, fun w u h => h⟩ (fun v ρ w hx hd S => op_move (p := Is (.int .i64 ((subF (EvalF e1 x).1 (EvalF e2 x).1).1))) (.inl rfl) (S.out rfl ((Is.st _) _ _ _ hx g23))) ?_
    refine ObL.cons ⟨rfl, fun w u h => h⟩ (fun v ρ w hx hd S => (op_neq rfl (S.dep 19 rfl (hd 19 rfl)) (S.dep 20 rfl (hd 20 rfl))).mono fun u w1 hu => ⟨hu.1, hu.2.trans (congrArg Value.bool (by rw [h4]; simp))⟩) ?_
    refine ObL.cons trivial (fun v ρ w hx hd S => op_pick (p := Is (.bool false)) false rfl (S.dep 18 rfl (hd 18 rfl)) (S.dep 21 rfl (hd 21 rfl))) ?_
    refine ObL.cons trivial (fun v ρ w hx hd S => op_move (p := Is (.bool false)) (.inl rfl) (S.dep 22 rfl (hd 22 rfl))) ?_
    refine ObL.cons ⟨rfl, fun w u h => h⟩ (fun v ρ w hx hd S => op_move (p := Is (.int .i64 ((EvalF (two 4 e1 e2) x).2))) (.inl rfl) (S.out rfl ((Is.st _) _ _ _ hx g22))) ?_
    refine ObL.cons ⟨rfl, fun w u h => h⟩ (fun v ρ w hx hd S => op_move (p := Is (.int .i64 ((subF (EvalF e1 x).1 (EvalF e2 x).1).2))) (.inl rfl) (S.out rfl ((Is.st _) _ _ _ hx g24))) ?_
    refine ObL.cons ⟨rfl, fun w u h => h⟩ (fun v ρ w hx hd S => (op_neq rfl (S.dep 24 rfl (hd 24 rfl)) (S.dep 25 rfl (hd 25 rfl))).mono fun u w1 hu => ⟨hu.1, hu.2.trans (congrArg Value.bool (by rw [h4]; simp))⟩) ?_
    refine ObL.cons trivial (fun v ρ w hx hd S => op_pick (p := Is (.bool false)) false rfl (S.dep 23 rfl (hd 23 rfl)) (S.dep 26 rfl (hd 26 rfl))) ?_
    refine ObL.cons trivial (fun v ρ w hx hd S => op_move (p := Is (.bool false)) (.inl rfl) (S.dep 27 rfl (hd 27 rfl))) ?_
    refine ObL.cons ⟨rfl, fun w u h => h⟩ (fun v ρ w hx hd S => op_move (p := Is (.int .i64 ((EvalF (two 6 e1 e2) x).2))) (.inl rfl) (S.out rfl ((Is.st _) _ _ _ hx g26))) ?_
    refine ObL.cons ⟨rfl, fun w u h => h⟩ (fun v ρ w hx hd S => (op_neq rfl (S.dep 29 rfl (hd 29 rfl)) (S.c _)).mono fun u w1 hu => ⟨hu.1, hu.2.trans (congrArg Value.bool (by rw [h6]; simp))⟩) ?_
    refine ObL.cons trivial (fun v ρ w hx hd S => op_pick (p := Is (.bool false)) false rfl (S.dep 28 rfl (hd 28 rfl)) (S.dep 30 rfl (hd 30 rfl))) ?_
    refine ObL.cons trivial (fun v ρ w hx hd S => op_move (p := Is (.bool false)) (.inl rfl) (S.dep 31 rfl (hd 31 rfl))) ?_
    refine ObL.cons ⟨rfl, fun w u h => h⟩ (fun v ρ w hx hd S => op_move (p := Is (.int .i64 ((EvalF (two 7 e1 e2) x).2))) (.inl rfl) (S.out rfl ((Is.st _) _ _ _ hx g28))) ?_
    refine ObL.cons ⟨rfl, fun w u h => h⟩ (fun v ρ w hx hd S => (op_neq rfl (S.dep 33 rfl (hd 33 rfl)) (S.c _)).mono fun u w1 hu => ⟨hu.1, hu.2.trans (congrArg Value.bool (by rw [h7]; simp))⟩) ?_
    refine ObL.cons trivial (fun v ρ w hx hd S => op_pick (p := Is (.bool false)) false rfl (S.dep 32 rfl (hd 32 rfl)) (S.dep 34 rfl (hd 34 rfl))) ?_
    refine ObL.cons trivial (fun v ρ w hx hd S => op_move (p := Is (.bool false)) (.inl rfl) (S.dep 35 rfl (hd 35 rfl))) ?_
    refine ObL.cons ⟨rfl, fun w u h => h⟩ (fun v ρ w hx hd S => op_move (p := Is (.int .i64 ((EvalF (two 6 e1 e2) x).1))) (.inl rfl) (S.out rfl ((Is.st _) _ _ _ hx g25))) ?_
    refine ObL.cons ⟨rfl, fun w u h => h⟩ (fun v ρ w hx hd S => op_move (p := Is (.int .i64 ((EvalF (two 7 e1 e2) x).1))) (.inl rfl) (S.out rfl ((Is.st _) _ _ _ hx g27))) ?_
    refine ObL.cons ⟨rfl, fun w u h => h⟩ (fun v ρ w hx hd S => (op_gtr rfl (S.dep 37 rfl (hd 37 rfl)) (S.dep 38 rfl (hd 38 rfl))).mono fun u w1 hu => ⟨hu.1, hu.2.trans (congrArg Value.bool (decide_eq_false (by rw [h6, h7]; show ¬ max _ _ < min _ _; omega)))⟩) ?_
    refine ObL.cons trivial (fun v ρ w hx hd S => op_pick (p := Is (.bool false)) false rfl (S.dep 36 rfl (hd 36 rfl)) (S.dep 39 rfl (hd 39 rfl))) ?_
    refine ObL.cons trivial (fun v ρ w hx hd S => op_move (p := Is (.bool false)) (.inl rfl) (S.dep 40 rfl (hd 40 rfl))) ?_
    refine ObL.cons ⟨rfl, fun w u h => h⟩ (fun v ρ w hx hd S => op_move (p := Is (.int .i64 ((EvalF (two 6 e1 e2) x).1))) (.inl rfl) (S.out rfl ((Is.st _) _ _ _ hx g25))) ?_
    refine ObL.cons ⟨rfl, fun w u h => h⟩ (fun v ρ w hx hd S => op_move (p := Is (.int .i64 ((EvalF e1 x).1))) (.inl rfl) (S.out rfl ((Is.st _) _ _ _ hx g7))) ?_
    refine ObL.cons ⟨rfl, fun w u h => h⟩ (fun v ρ w hx hd S => (op_neq rfl (S.dep 42 rfl (hd 42 rfl)) (S.dep 43 rfl (hd 43 rfl))).mono fun u w1 hu => ⟨hu.1, hu.2.trans (congrArg Value.bool (bne_iff_ne.2 (by rw [h6]; show min _ _ ≠ _; omega)))⟩) ?_
    refine ObL.cons ⟨rfl, fun w u h => h⟩ (fun v ρ w hx hd S => op_move (p := Is (.bool true)) (.inl rfl) (S.dep 44 rfl (hd 44 rfl))) ?_
    refine ObL.cons ⟨rfl, fun w u h => h⟩ (fun v ρ w hx hd S => op_move (p := Is (.int .i64 ((EvalF (two 6 e1 e2) x).1))) (.inl rfl) (S.out rfl ((Is.st _) _ _ _ hx g25))) ?_
    refine ObL.cons ⟨rfl, fun w u h => h⟩ (fun v ρ w hx hd S => op_move (p := Is (.int .i64 ((EvalF e2 x).1))) (.inl rfl) (S.out rfl ((Is.st _) _ _ _ hx g9))) ?_
    refine ObL.cons ⟨rfl, fun w u h => h⟩ (fun v ρ w hx hd S => (op_neq rfl (S.dep 46 rfl (hd 46 rfl)) (S.dep 47 rfl (hd 47 rfl))).mono fun u w1 hu => ⟨hu.1, hu.2.trans (congrArg Value.bool (bne_eq_false_iff_eq.2 (by rw [h6]; show min _ _ = _; omega)))⟩) ?_
    refine ObL.cons ⟨rfl, fun w u h => h⟩ (fun v ρ w hx hd S => op_pick (p := Is (.bool false)) true rfl (S.dep 45 rfl (hd 45 rfl)) (S.dep 48 rfl (hd 48 rfl))) ?_
    refine ObL.cons trivial (fun v ρ w hx hd S => op_pick (p := Is (.bool false)) false rfl (S.dep 41 rfl (hd 41 rfl)) (S.dep 49 rfl (hd 49 rfl))) ?_
    refine ObL.cons trivial (fun v ρ w hx hd S => op_move (p := Is (.bool false)) (.inl rfl) (S.dep 50 rfl (hd 50 rfl))) ?_
    refine ObL.cons ⟨rfl, fun w u h => h⟩ (fun v ρ w hx hd S => op_move (p := Is (.int .i64 ((EvalF (two 7 e1 e2) x).1))) (.inl rfl) (S.out rfl ((Is.st _) _ _ _ hx g27))) ?_
    refine ObL.cons ⟨rfl, fun w u h => h⟩ (fun v ρ w hx hd S => op_move (p := Is (.int .i64 ((EvalF e1 x).1))) (.inl rfl) (S.out rfl ((Is.st _) _ _ _ hx g7))) ?_
    refine ObL.cons ⟨rfl, fun w u h => h⟩ (fun v ρ w hx hd S => (op_neq rfl (S.dep 52 rfl (hd 52 rfl)) (S.dep 53 rfl (hd 53 rfl))).mono fun u w1 hu => ⟨hu.1, hu.2.trans (congrArg Value.bool (bne_eq_false_iff_eq.2 (by rw [h7]; show max _ _ = _; omega)))⟩) ?_
    refine ObL.cons ⟨rfl, fun w u h => h⟩ (fun v ρ w hx hd S => op_move (p := Is (.bool false)) (.inl rfl) (S.dep 54 rfl (hd 54 rfl))) ?_
    refine ObL.skip ⟨rfl, fun w u h => h, fun _ => trivial⟩ ?_
    refine ObL.skip ⟨rfl, fun w u h => h, fun _ => trivial⟩ ?_
    refine ObL.skip ⟨rfl, fun w u h => h, fun _ => trivial⟩ ?_
    refine ObL.cons ⟨rfl, fun w u h => h⟩ (fun v ρ w hx hd S => op_pick (p := Is (.bool false)) false rfl (S.dep 55 rfl (hd 55 rfl)) (S.c _)) ?_
    refine ObL.cons trivial (fun v ρ w hx hd S => op_pick (p := Is (.bool false)) false rfl (S.dep 51 rfl (hd 51 rfl)) (S.dep 59 rfl (hd 59 rfl))) ?_
    refine ObL.cons trivial (fun v ρ w hx hd S => op_move (p := Is (.bool false)) (.inl rfl) (S.dep 60 rfl (hd 60 rfl))) ?_
    refine ObL.cons ⟨rfl, fun w u h => h⟩ (fun v ρ w hx hd S => op_move (p := Is (.int .i64 ((EvalF e1 x).1))) (.inl rfl) (S.out rfl ((Is.st _) _ _ _ hx g7))) ?_
    refine ObL.cons ⟨rfl, fun w u h => h⟩ (fun v ρ w hx hd S => op_move (p := Is (.int .i64 ((EvalF e2 x).1))) (.inl rfl) (S.out rfl ((Is.st _) _ _ _ hx g9))) ?_
    refine ObL.cons ⟨rfl, fun w u h => h⟩ (fun v ρ w hx hd S => (op_eql rfl (S.dep 62 rfl (hd 62 rfl)) (S.dep 63 rfl (hd 63 rfl))).mono fun u w1 hu => ⟨hu.1, hu.2.trans (congrArg Value.bool (beq_eq_false_iff_ne.2 (by omega)))⟩) ?_
    refine ObL.cons ⟨rfl, fun w u h => h⟩ (fun v ρ w hx hd S => op_move (p := Is (.bool false)) (.inl rfl) (S.dep 64 rfl (hd 64 rfl))) ?_
    refine ObL.skip ⟨rfl, fun w u h => h, fun _ => trivial⟩ ?_
    refine ObL.skip ⟨rfl, fun w u h => h, fun _ => trivial⟩ ?_
    refine ObL.skip ⟨rfl, fun w u h => h, fun _ => trivial⟩ ?_
    refine ObL.cons ⟨rfl, fun w u h => h⟩ (fun v ρ w hx hd S => op_pick (p := Is (.bool false)) false rfl (S.dep 65 rfl (hd 65 rfl)) (S.c _)) ?_
    refine ObL.cons trivial (fun v ρ w hx hd S => op_pick (p := Is (.bool false)) false rfl (S.dep 61 rfl (hd 61 rfl)) (S.dep 69 rfl (hd 69 rfl))) ?_
    exact ObL.nil
  · intro v a1 w hx hPP S hs hdf
    refine wpList_nil ?_
    exact hQ a1 w hx S.o hs hdf (S.dep 70 rfl (hPP 70 (by decide)))

noncomputable def lcC22 : Code := ((Try.f6.body.bind (regionOf 22)).getD .skip)
def lc22D : List (Option Tmp) := [some 217, some 218, some 219, some 220, some 221, some 216, some 222, some 223, some 29, some 30]
def lc22P (x : Ev) (e1 e2 : Ex)  : List (World → Value → Prop) := [(ExA e1), (ExA e2), (ExA (two 8 e1 e2)), (Is (.agg x.cells.toArray)), (Is (.tuple #[.int .i64 ((EvalF (two 8 e1 e2) x).1), .int .i64 ((EvalF (two 8 e1 e2) x).2)])), (Is (.tuple #[.int .i64 ((EvalF (two 8 e1 e2) x).1), .int .i64 ((EvalF (two 8 e1 e2) x).2)])), (Is (.int .i64 ((EvalF (two 8 e1 e2) x).1))), (Is (.int .i64 ((EvalF (two 8 e1 e2) x).2))), (Is (.int .i64 ((EvalF (two 8 e1 e2) x).1))), (Is (.int .i64 ((EvalF (two 8 e1 e2) x).2)))]
set_option maxHeartbeats 2000000 in
set_option maxRecDepth 100000 in
theorem lc22 (x : Ev) (hok : x.ok) (e1 e2 : Ex)   (Q : Exit → Act → World → Prop) (a0 : Act) (W : World) (hsz : a0.tmps.size = 303) (g3 : (VarP 7 (ExA e1)) W (a0.eval (.tmp 3))) (g4 : (VarP 7 (ExA e2)) W (a0.eval (.tmp 4))) (g5 : (VarP 17 (Is (.agg x.cells.toArray))) W (a0.eval (.tmp 5)))
    (hQ : ∀ a1 W1, Ext W W1 → (∀ t, lc22D.contains (some t) = false → a1.eval (.tmp t) = a0.eval (.tmp t)) → a1.tmps.size = 303 → a1.defers = a0.defers → (Is (.int .i64 ((EvalF (two 8 e1 e2) x).1))) W1 (a1.eval (.tmp 29)) → (Is (.int .i64 ((EvalF (two 8 e1 e2) x).2))) W1 (a1.eval (.tmp 30)) → Q .normal a1 W1) : lcC22.wp Try.prog Q a0 W := by
  conv => arg 2; whnf
  refine wp_region_st 10 lc22D (lc22P x e1 e2 ) 303 (by kernel_rfl) (by kernel_rfl) hsz ?_ ?_ ?_
  · exact AllSt.cons ExA.st (AllSt.cons ExA.st (AllSt.cons ExA.st (AllSt.cons (Is.st _) (AllSt.cons (Is.st _) (AllSt.cons (Is.st _) (AllSt.cons (Is.st _) (AllSt.cons (Is.st _) (AllSt.cons (Is.st _) (AllSt.cons (Is.st _) (AllSt.nil))))))))))
  · simp only [List.take_succ_cons, List.take_zero]
    refine ObL.cons trivial (fun v ρ w hx hd S => op_loadV _ _ rfl _ Try.underlying26 rfl info_expr (S.out rfl ((VarP.st ExA.st) _ _ _ hx g3))) ?_
    refine ObL.cons trivial (fun v ρ w hx hd S => op_loadV _ _ rfl _ Try.underlying26 rfl info_expr (S.out rfl ((VarP.st ExA.st) _ _ _ hx g4))) ?_
    refine ObL.cons trivial (fun v ρ w hx hd S => op_pairA 8 (by constructor <;> decide) rfl S (S.dep 0 rfl (hd 0 rfl)) (S.dep 1 rfl (hd 1 rfl))) ?_
    refine ObL.cons trivial (fun v ρ w hx hd S => op_loadV _ _ rfl _ Try.underlying29 rfl info_env (S.out rfl ((VarP.st (Is.st _)) _ _ _ hx g5))) ?_
    refine ObL.cons trivial (fun v ρ w hx hd S => op_evalT x hok rfl S (S.dep 2 rfl (hd 2 rfl)) (S.dep 3 rfl (hd 3 rfl))) ?_
    refine ObL.cons trivial (fun v ρ w hx hd S => op_move (p := Is (.tuple #[.int .i64 ((EvalF (two 8 e1 e2) x).1), .int .i64 ((EvalF (two 8 e1 e2) x).2)])) (.inl rfl) (S.dep 4 rfl (hd 4 rfl))) ?_
    refine ObL.cons trivial (fun v ρ w hx hd S => op_extract rfl (S.dep 5 rfl (hd 5 rfl)) rfl) ?_
    refine ObL.cons trivial (fun v ρ w hx hd S => op_extract rfl (S.dep 5 rfl (hd 5 rfl)) rfl) ?_
    refine ObL.cons trivial (fun v ρ w hx hd S => op_move (p := Is (.int .i64 ((EvalF (two 8 e1 e2) x).1))) (.inr rfl) (S.dep 6 rfl (hd 6 rfl))) ?_
    refine ObL.cons trivial (fun v ρ w hx hd S => op_move (p := Is (.int .i64 ((EvalF (two 8 e1 e2) x).2))) (.inr rfl) (S.dep 7 rfl (hd 7 rfl))) ?_
    exact ObL.nil
  · intro v a1 w hx hPP S hs hdf
    refine stable_all (by kernel_rfl) ?_
    exact hQ a1 w hx S.o hs hdf (S.dep 8 rfl (hPP 8 (by decide))) (S.dep 9 rfl (hPP 9 (by decide)))

noncomputable def lcC23 : Code := ((Try.f6.body.bind (regionOf 23)).getD .skip)
def lc23D : List (Option Tmp) := [some 225, some 226, some 227, some 228, some 229, some 224, some 230, some 231, some 31, some 32]
def lc23P (x : Ev) (e1 e2 : Ex)  : List (World → Value → Prop) := [(ExA e1), (ExA e2), (ExA (two 9 e1 e2)), (Is (.agg x.cells.toArray)), (Is (.tuple #[.int .i64 ((EvalF (two 9 e1 e2) x).1), .int .i64 ((EvalF (two 9 e1 e2) x).2)])), (Is (.tuple #[.int .i64 ((EvalF (two 9 e1 e2) x).1), .int .i64 ((EvalF (two 9 e1 e2) x).2)])), (Is (.int .i64 ((EvalF (two 9 e1 e2) x).1))), (Is (.int .i64 ((EvalF (two 9 e1 e2) x).2))), (Is (.int .i64 ((EvalF (two 9 e1 e2) x).1))), (Is (.int .i64 ((EvalF (two 9 e1 e2) x).2)))]
set_option maxHeartbeats 2000000 in
set_option maxRecDepth 100000 in
theorem lc23 (x : Ev) (hok : x.ok) (e1 e2 : Ex)   (Q : Exit → Act → World → Prop) (a0 : Act) (W : World) (hsz : a0.tmps.size = 303) (g3 : (VarP 7 (ExA e1)) W (a0.eval (.tmp 3))) (g4 : (VarP 7 (ExA e2)) W (a0.eval (.tmp 4))) (g5 : (VarP 17 (Is (.agg x.cells.toArray))) W (a0.eval (.tmp 5)))
    (hQ : ∀ a1 W1, Ext W W1 → (∀ t, lc23D.contains (some t) = false → a1.eval (.tmp t) = a0.eval (.tmp t)) → a1.tmps.size = 303 → a1.defers = a0.defers → (Is (.int .i64 ((EvalF (two 9 e1 e2) x).1))) W1 (a1.eval (.tmp 31)) → (Is (.int .i64 ((EvalF (two 9 e1 e2) x).2))) W1 (a1.eval (.tmp 32)) → Q .normal a1 W1) : lcC23.wp Try.prog Q a0 W := by
  conv => arg 2; whnf
  refine wp_region_st 10 lc23D (lc23P x e1 e2 ) 303 (by kernel_rfl) (by kernel_rfl) hsz ?_ ?_ ?_
  · exact AllSt.cons ExA.st (AllSt.cons ExA.st (AllSt.cons ExA.st (AllSt.cons (Is.st _) (AllSt.cons (Is.st _) (AllSt.cons (Is.st _) (AllSt.cons (Is.st _) (AllSt.cons (Is.st _) (AllSt.cons (Is.st _) (AllSt.cons (Is.st _) (AllSt.nil))))))))))
  · simp only [List.take_succ_cons, List.take_zero]
    refine ObL.cons trivial (fun v ρ w hx hd S => op_loadV _ _ rfl _ Try.underlying26 rfl info_expr (S.out rfl ((VarP.st ExA.st) _ _ _ hx g3))) ?_
    refine ObL.cons trivial (fun v ρ w hx hd S => op_loadV _ _ rfl _ Try.underlying26 rfl info_expr (S.out rfl ((VarP.st ExA.st) _ _ _ hx g4))) ?_
    refine ObL.cons trivial (fun v ρ w hx hd S => op_pairA 9 (by constructor <;> decide) rfl S (S.dep 0 rfl (hd 0 rfl)) (S.dep 1 rfl (hd 1 rfl))) ?_
    refine ObL.cons trivial (fun v ρ w hx hd S => op_loadV _ _ rfl _ Try.underlying29 rfl info_env (S.out rfl ((VarP.st (Is.st _)) _ _ _ hx g5))) ?_
    refine ObL.cons trivial (fun v ρ w hx hd S => op_evalT x hok rfl S (S.dep 2 rfl (hd 2 rfl)) (S.dep 3 rfl (hd 3 rfl))) ?_
    refine ObL.cons trivial (fun v ρ w hx hd S => op_move (p := Is (.tuple #[.int .i64 ((EvalF (two 9 e1 e2) x).1), .int .i64 ((EvalF (two 9 e1 e2) x).2)])) (.inl rfl) (S.dep 4 rfl (hd 4 rfl))) ?_
    refine ObL.cons trivial (fun v ρ w hx hd S => op_extract rfl (S.dep 5 rfl (hd 5 rfl)) rfl) ?_
    refine ObL.cons trivial (fun v ρ w hx hd S => op_extract rfl (S.dep 5 rfl (hd 5 rfl)) rfl) ?_
    refine ObL.cons trivial (fun v ρ w hx hd S => op_move (p := Is (.int .i64 ((EvalF (two 9 e1 e2) x).1))) (.inr rfl) (S.dep 6 rfl (hd 6 rfl))) ?_
    refine ObL.cons trivial (fun v ρ w hx hd S => op_move (p := Is (.int .i64 ((EvalF (two 9 e1 e2) x).2))) (.inr rfl) (S.dep 7 rfl (hd 7 rfl))) ?_
    exact ObL.nil
  · intro v a1 w hx hPP S hs hdf
    refine stable_all (by kernel_rfl) ?_
    exact hQ a1 w hx S.o hs hdf (S.dep 8 rfl (hPP 8 (by decide))) (S.dep 9 rfl (hPP 9 (by decide)))

noncomputable def lcC24 : Code := ((Try.f6.body.bind (regionOf 24)).getD .skip)
def lc24D : List (Option Tmp) := [some 233, some 234, some 235, some 236, some 237, some 232, some 238, some 239, some 33, some 34]
def lc24P (x : Ev) (e1 e2 : Ex)  : List (World → Value → Prop) := [(ExA e1), (ExA e2), (ExA (two 10 e1 e2)), (Is (.agg x.cells.toArray)), (Is (.tuple #[.int .i64 ((EvalF (two 10 e1 e2) x).1), .int .i64 ((EvalF (two 10 e1 e2) x).2)])), (Is (.tuple #[.int .i64 ((EvalF (two 10 e1 e2) x).1), .int .i64 ((EvalF (two 10 e1 e2) x).2)])), (Is (.int .i64 ((EvalF (two 10 e1 e2) x).1))), (Is (.int .i64 ((EvalF (two 10 e1 e2) x).2))), (Is (.int .i64 ((EvalF (two 10 e1 e2) x).1))), (Is (.int .i64 ((EvalF (two 10 e1 e2) x).2)))]
set_option maxHeartbeats 2000000 in
set_option maxRecDepth 100000 in
theorem lc24 (x : Ev) (hok : x.ok) (e1 e2 : Ex)   (Q : Exit → Act → World → Prop) (a0 : Act) (W : World) (hsz : a0.tmps.size = 303) (g3 : (VarP 7 (ExA e1)) W (a0.eval (.tmp 3))) (g4 : (VarP 7 (ExA e2)) W (a0.eval (.tmp 4))) (g5 : (VarP 17 (Is (.agg x.cells.toArray))) W (a0.eval (.tmp 5)))
    (hQ : ∀ a1 W1, Ext W W1 → (∀ t, lc24D.contains (some t) = false → a1.eval (.tmp t) = a0.eval (.tmp t)) → a1.tmps.size = 303 → a1.defers = a0.defers → (Is (.int .i64 ((EvalF (two 10 e1 e2) x).1))) W1 (a1.eval (.tmp 33)) → (Is (.int .i64 ((EvalF (two 10 e1 e2) x).2))) W1 (a1.eval (.tmp 34)) → Q .normal a1 W1) : lcC24.wp Try.prog Q a0 W := by
  conv => arg 2; whnf
  refine wp_region_st 10 lc24D (lc24P x e1 e2 ) 303 (by kernel_rfl) (by kernel_rfl) hsz ?_ ?_ ?_
  · exact AllSt.cons ExA.st (AllSt.cons ExA.st (AllSt.cons ExA.st (AllSt.cons (Is.st _) (AllSt.cons (Is.st _) (AllSt.cons (Is.st _) (AllSt.cons (Is.st _) (AllSt.cons (Is.st _) (AllSt.cons (Is.st _) (AllSt.cons (Is.st _) (AllSt.nil))))))))))
  · simp only [List.take_succ_cons, List.take_zero]
    refine ObL.cons trivial (fun v ρ w hx hd S => op_loadV _ _ rfl _ Try.underlying26 rfl info_expr (S.out rfl ((VarP.st ExA.st) _ _ _ hx g3))) ?_
    refine ObL.cons trivial (fun v ρ w hx hd S => op_loadV _ _ rfl _ Try.underlying26 rfl info_expr (S.out rfl ((VarP.st ExA.st) _ _ _ hx g4))) ?_
    refine ObL.cons trivial (fun v ρ w hx hd S => op_pairA 10 (by constructor <;> decide) rfl S (S.dep 0 rfl (hd 0 rfl)) (S.dep 1 rfl (hd 1 rfl))) ?_
    refine ObL.cons trivial (fun v ρ w hx hd S => op_loadV _ _ rfl _ Try.underlying29 rfl info_env (S.out rfl ((VarP.st (Is.st _)) _ _ _ hx g5))) ?_
    refine ObL.cons trivial (fun v ρ w hx hd S => op_evalT x hok rfl S (S.dep 2 rfl (hd 2 rfl)) (S.dep 3 rfl (hd 3 rfl))) ?_
    refine ObL.cons trivial (fun v ρ w hx hd S => op_move (p := Is (.tuple #[.int .i64 ((EvalF (two 10 e1 e2) x).1), .int .i64 ((EvalF (two 10 e1 e2) x).2)])) (.inl rfl) (S.dep 4 rfl (hd 4 rfl))) ?_
    refine ObL.cons trivial (fun v ρ w hx hd S => op_extract rfl (S.dep 5 rfl (hd 5 rfl)) rfl) ?_
    refine ObL.cons trivial (fun v ρ w hx hd S => op_extract rfl (S.dep 5 rfl (hd 5 rfl)) rfl) ?_
    refine ObL.cons trivial (fun v ρ w hx hd S => op_move (p := Is (.int .i64 ((EvalF (two 10 e1 e2) x).1))) (.inr rfl) (S.dep 6 rfl (hd 6 rfl))) ?_
    refine ObL.cons trivial (fun v ρ w hx hd S => op_move (p := Is (.int .i64 ((EvalF (two 10 e1 e2) x).2))) (.inr rfl) (S.dep 7 rfl (hd 7 rfl))) ?_
    exact ObL.nil
  · intro v a1 w hx hPP S hs hdf
    refine stable_all (by kernel_rfl) ?_
    exact hQ a1 w hx S.o hs hdf (S.dep 8 rfl (hPP 8 (by decide))) (S.dep 9 rfl (hPP 9 (by decide)))

noncomputable def lcC25 : Code := ((Try.f6.body.bind (regionOf 25)).getD .skip)
def lc25aD : List (Option Tmp) := [some 240, some 241]
def lc25aP (x : Ev) (e1 e2 : Ex)  : List (World → Value → Prop) := [(Is (.int .i64 ((EvalF e2 x).1))), (Is (.bool true))]
set_option maxHeartbeats 2000000 in
set_option maxRecDepth 100000 in
theorem lc25a (x : Ev) (hok : x.ok) (e1 e2 : Ex)  (hb0 : (EvalF e2 x).1 ≤ 0) (Q : Exit → Act → World → Prop) (a0 : Act) (W : World) (hsz : a0.tmps.size = 303) (g9 : (Is (.int .i64 ((EvalF e2 x).1))) W (a0.eval (.tmp 9)))
    (hQ : ∀ a1 W1, Ext W W1 → (∀ t, lc25aD.contains (some t) = false → a1.eval (.tmp t) = a0.eval (.tmp t)) → a1.tmps.size = 303 → a1.defers = a0.defers → (Is (.bool true)) W1 (a1.eval (.tmp 241)) → Q .normal a1 W1) : lcC25.wp Try.prog Q a0 W := by
  conv => arg 2; whnf
  refine wp_region_sq 2 lc25aD (lc25aP x e1 e2 ) 303 (by kernel_rfl) hsz ?_ ?_ ?_
  · exact AllSt.cons (Is.st _) (AllSt.cons (Is.st _) (AllSt.nil))
  · simp only [List.take_succ_cons, List.take_zero]
    refine ObL.cons trivial (fun v ρ w hx hd S => op_move (p := Is (.int .i64 ((EvalF e2 x).1))) (.inl rfl) (S.out rfl ((Is.st _) _ _ _ hx g9))) ?_
    refine ObL.cons trivial (fun v ρ w hx hd S => (op_leq rfl (S.dep 0 rfl (hd 0 rfl)) (S.c _)).mono fun u w1 hu => ⟨hu.1, hu.2.trans (congrArg Value.bool (decide_eq_true hb0))⟩) ?_
    exact ObL.nil
  · intro v a1 w hx hPP S hs hdf
    refine wpList_nil ?_
    exact hQ a1 w hx S.o hs hdf (S.dep 1 rfl (hPP 1 (by decide)))

noncomputable def lcC26 : Code := ((Try.f6.body.bind (regionOf 26)).getD .skip)
def lc26D : List (Option Tmp) := [some 242, some 243, some 244, some 245, some 246, some 247, some 248, some 249, some 250, some 251, some 6]
def lc26P (x : Ev) (e1 e2 : Ex)  : List (World → Value → Prop) := [(Is (.int .i64 ((EvalF (two 8 e1 e2) x).2))), (Is (.bool true)), (Is (.bool true)), (Is (.int .i64 ((EvalF (two 9 e1 e2) x).2))), (Is (.bool true)), (Is (.bool true)), (Is (.bool true)), (Is (.int .i64 ((EvalF (two 10 e1 e2) x).2))), (Is (.bool true)), (Is (.bool true)), (Is (.bool true))]
set_option maxHeartbeats 2000000 in
set_option maxRecDepth 100000 in
theorem lc26 (x : Ev) (hok : x.ok) (e1 e2 : Ex)  (k8 : EvalF (two 8 e1 e2) x = (0, 70)) (k9 : EvalF (two 9 e1 e2) x = (0, 70)) (k10 : EvalF (two 10 e1 e2) x = (0, 70)) (Q : Exit → Act → World → Prop) (a0 : Act) (W : World) (hsz : a0.tmps.size = 303) (g30 : (Is (.int .i64 ((EvalF (two 8 e1 e2) x).2))) W (a0.eval (.tmp 30))) (g32 : (Is (.int .i64 ((EvalF (two 9 e1 e2) x).2))) W (a0.eval (.tmp 32))) (g34 : (Is (.int .i64 ((EvalF (two 10 e1 e2) x).2))) W (a0.eval (.tmp 34)))
    (hQ : ∀ a1 W1, Ext W W1 → (∀ t, lc26D.contains (some t) = false → a1.eval (.tmp t) = a0.eval (.tmp t)) → a1.tmps.size = 303 → a1.defers = a0.defers → (Is (.bool true)) W1 (a1.eval (.tmp 6)) → Q .normal a1 W1) : lcC26.wp Try.prog Q a0 W := by
  conv => arg 2; whnf
  refine wp_region_sq 11 lc26D (lc26P x e1 e2 ) 303 (by kernel_rfl) hsz ?_ ?_ ?_
  · exact AllSt.cons (Is.st _) (AllSt.cons (Is.st _) (AllSt.cons (Is.st _) (AllSt.cons (Is.st _) (AllSt.cons (Is.st _) (AllSt.cons (Is.st _) (AllSt.cons (Is.st _) (AllSt.cons (Is.st _) (AllSt.cons (Is.st _) (AllSt.cons (Is.st _) (AllSt.cons (Is.st _) (AllSt.nil)))))))))))
  · simp only [List.take_succ_cons, List.take_zero]
    refine ObL.cons trivial (fun v ρ w hx hd S => op_move (p := Is (.int .i64 ((EvalF (two 8 e1 e2) x).2))) (.inl rfl) (S.out rfl ((Is.st _) _ _ _ hx g30))) ?_
    refine ObL.cons trivial (fun v ρ w hx hd S => (op_eql rfl (S.dep 0 rfl (hd 0 rfl)) (S.c _)).mono fun u w1 hu => ⟨hu.1, hu.2.trans (congrArg Value.bool (by rw [k8]; simp))⟩) ?_
    refine ObL.cons trivial (fun v ρ w hx hd S => op_move (p := Is (.bool true)) (.inl rfl) (S.dep 1 rfl (hd 1 rfl))) ?_
    refine ObL.cons ⟨rfl, fun w u h => h⟩ (fun v ρ w hx hd S => op_move (p := Is (.int .i64 ((EvalF (two 9 e1 e2) x).2))) (.inl rfl) (S.out rfl ((Is.st _) _ _ _ hx g32))) ?_
    refine ObL.cons ⟨rfl, fun w u h => h⟩ (fun v ρ w hx hd S => (op_eql rfl (S.dep 3 rfl (hd 3 rfl)) (S.c _)).mono fun u w1 hu => ⟨hu.1, hu.2.trans (congrArg Value.bool (by rw [k9]; simp))⟩) ?_
    refine ObL.cons trivial (fun v ρ w hx hd S => op_pick (p := Is (.bool true)) true rfl (S.dep 2 rfl (hd 2 rfl)) (S.dep 4 rfl (hd 4 rfl))) ?_
    refine ObL.cons trivial (fun v ρ w hx hd S => op_move (p := Is (.bool true)) (.inl rfl) (S.dep 5 rfl (hd 5 rfl))) ?_
    refine ObL.cons ⟨rfl, fun w u h => h⟩ (fun v ρ w hx hd S => op_move (p := Is (.int .i64 ((EvalF (two 10 e1 e2) x).2))) (.inl rfl) (S.out rfl ((Is.st _) _ _ _ hx g34))) ?_
    refine ObL.cons ⟨rfl, fun w u h => h⟩ (fun v ρ w hx hd S => (op_eql rfl (S.dep 7 rfl (hd 7 rfl)) (S.c _)).mono fun u w1 hu => ⟨hu.1, hu.2.trans (congrArg Value.bool (by rw [k10]; simp))⟩) ?_
    refine ObL.cons trivial (fun v ρ w hx hd S => op_pick (p := Is (.bool true)) true rfl (S.dep 6 rfl (hd 6 rfl)) (S.dep 8 rfl (hd 8 rfl))) ?_
    refine ObL.cons trivial (fun v ρ w hx hd S => op_move (p := Is (.bool true)) (.inr rfl) (S.dep 9 rfl (hd 9 rfl))) ?_
    exact ObL.nil
  · intro v a1 w hx hPP S hs hdf
    refine wpList_nil ?_
    exact hQ a1 w hx S.o hs hdf (S.dep 10 rfl (hPP 10 (by decide)))

def lc25bD : List (Option Tmp) := [some 240, some 241]
def lc25bP (x : Ev) (e1 e2 : Ex)  : List (World → Value → Prop) := [(Is (.int .i64 ((EvalF e2 x).1))), (Is (.bool false))]
set_option maxHeartbeats 2000000 in
set_option maxRecDepth 100000 in
theorem lc25b (x : Ev) (hok : x.ok) (e1 e2 : Ex)  (hb0 : ¬ (EvalF e2 x).1 ≤ 0) (Q : Exit → Act → World → Prop) (a0 : Act) (W : World) (hsz : a0.tmps.size = 303) (g9 : (Is (.int .i64 ((EvalF e2 x).1))) W (a0.eval (.tmp 9)))
    (hQ : ∀ a1 W1, Ext W W1 → (∀ t, lc25bD.contains (some t) = false → a1.eval (.tmp t) = a0.eval (.tmp t)) → a1.tmps.size = 303 → a1.defers = a0.defers → (Is (.bool false)) W1 (a1.eval (.tmp 241)) → Q .normal a1 W1) : lcC25.wp Try.prog Q a0 W := by
  conv => arg 2; whnf
  refine wp_region_sq 2 lc25bD (lc25bP x e1 e2 ) 303 (by kernel_rfl) hsz ?_ ?_ ?_
  · exact AllSt.cons (Is.st _) (AllSt.cons (Is.st _) (AllSt.nil))
  · simp only [List.take_succ_cons, List.take_zero]
    refine ObL.cons trivial (fun v ρ w hx hd S => op_move (p := Is (.int .i64 ((EvalF e2 x).1))) (.inl rfl) (S.out rfl ((Is.st _) _ _ _ hx g9))) ?_
    refine ObL.cons trivial (fun v ρ w hx hd S => (op_leq rfl (S.dep 0 rfl (hd 0 rfl)) (S.c _)).mono fun u w1 hu => ⟨hu.1, hu.2.trans (congrArg Value.bool (decide_eq_false hb0))⟩) ?_
    exact ObL.nil
  · intro v a1 w hx hPP S hs hdf
    refine wpList_nil ?_
    exact hQ a1 w hx S.o hs hdf (S.dep 1 rfl (hPP 1 (by decide)))

noncomputable def lcC27 : Code := ((Try.f6.body.bind (regionOf 27)).getD .skip)
def lc27D : List (Option Tmp) := [some 252, some 253, some 254, some 255, some 256, some 257, some 258, some 259, some 260, some 261, some 262, some 263, some 264, some 265, some 266, some 267, some 268, some 269, some 270, some 271, some 272, some 273, some 274, some 275, some 276, some 277, some 278, some 279, some 280, some 281, some 282, some 283, some 284, some 285, some 286, some 287, some 288, some 289, some 290, some 291, some 292, some 293, some 294, some 295, some 296, some 297, some 298, some 299, some 300, some 301, some 302, some 6]
def lc27P (x : Ev) (e1 e2 : Ex)  : List (World → Value → Prop) := [(Is (.int .i64 ((EvalF (two 8 e1 e2) x).2))), (Is (.bool true)), (Is (.bool true)), (Is (.int .i64 ((EvalF (two 9 e1 e2) x).2))), (Is (.bool true)), (Is (.bool true)), (Is (.bool true)), (Is (.int .i64 ((EvalF (two 10 e1 e2) x).2))), (Is (.bool true)), (Is (.bool true)), (Is (.bool true)), (Is (.int .i64 ((EvalF (two 8 e1 e2) x).1))), (Is (.int .i64 ((EvalF (two 10 e1 e2) x).1))), (Is (.bool true)), (Is (.bool true)), (Is (.bool true)), (Is (.int .i64 ((EvalF (two 10 e1 e2) x).1))), (Is (.int .i64 ((EvalF (two 9 e1 e2) x).1))), (Is (.bool true)), (Is (.bool true)), (Is (.bool true)), (Is (.int .i64 ((EvalF (two 9 e1 e2) x).1))), (Is (.int .i64 ((EvalF (two 8 e1 e2) x).1))), (Is (.int .i64 (((EvalF (two 9 e1 e2) x).1 - (EvalF (two 8 e1 e2) x).1)))), (Is (.bool true)), (Is (.bool true)), (Is (.bool true)), (Is (.int .i64 ((EvalF (two 8 e1 e2) x).1))), (Is (.int .i64 ((EvalF e2 x).1))), (Is (.int .i64 (((EvalF (two 8 e1 e2) x).1 * (EvalF e2 x).1)))), (Is (.int .i64 ((EvalF e1 x).1))), (Is (.bool true)), (Is (.bool true)), (Is (.bool true)), (Is (.int .i64 ((EvalF e1 x).1))), (Is (.int .i64 ((EvalF (two 9 e1 e2) x).1))), (Is (.int .i64 ((EvalF e2 x).1))), (Is (.int .i64 (((EvalF (two 9 e1 e2) x).1 * (EvalF e2 x).1)))), (Is (.bool true)), (Is (.bool true)), (Is (.bool true)), (Is (.int .i64 ((EvalF (two 9 e1 e2) x).1))), (Is (.int .i64 ((EvalF (two 8 e1 e2) x).1))), (Is (.bool ((((EvalF (two 9 e1 e2) x).1 : Int) == (EvalF (two 8 e1 e2) x).1)))), (Is (.int .i64 ((EvalF (two 8 e1 e2) x).1))), (Is (.int .i64 ((EvalF e2 x).1))), (Is (.int .i64 (((EvalF (two 8 e1 e2) x).1 * (EvalF e2 x).1)))), (Is (.int .i64 ((EvalF e1 x).1))), (Is (.bool (((((EvalF (two 8 e1 e2) x).1 * (EvalF e2 x).1) : Int) == (EvalF e1 x).1)))), (Is (.bool true)), (Is (.bool true)), (Is (.bool true))]
set_option maxHeartbeats 2000000 in
set_option maxRecDepth 100000 in
theorem lc27 (x : Ev) (hok : x.ok) (e1 e2 : Ex)  (k8 : (EvalF (two 8 e1 e2) x).2 = 0) (k9 : (EvalF (two 9 e1 e2) x).2 = 0) (k10 : (EvalF (two 10 e1 e2) x).2 = 0) (z1 : (EvalF (two 8 e1 e2) x).1 ≤ (EvalF (two 10 e1 e2) x).1) (z2 : (EvalF (two 10 e1 e2) x).1 ≤ (EvalF (two 9 e1 e2) x).1) (z3 : (EvalF (two 9 e1 e2) x).1 - (EvalF (two 8 e1 e2) x).1 ≤ 1) (z4 : (EvalF (two 8 e1 e2) x).1 * (EvalF e2 x).1 ≤ (EvalF e1 x).1) (z5 : (EvalF e1 x).1 ≤ (EvalF (two 9 e1 e2) x).1 * (EvalF e2 x).1) (z6 : I64 ((EvalF (two 9 e1 e2) x).1 - (EvalF (two 8 e1 e2) x).1)) (z7 : I64 ((EvalF (two 8 e1 e2) x).1 * (EvalF e2 x).1)) (z8 : I64 ((EvalF (two 9 e1 e2) x).1 * (EvalF e2 x).1)) (z9 : (((EvalF (two 9 e1 e2) x).1 == (EvalF (two 8 e1 e2) x).1) == ((EvalF (two 8 e1 e2) x).1 * (EvalF e2 x).1 == (EvalF e1 x).1)) = true) (Q : Exit → Act → World → Prop) (a0 : Act) (W : World) (hsz : a0.tmps.size = 303) (g7 : (Is (.int .i64 ((EvalF e1 x).1))) W (a0.eval (.tmp 7))) (g9 : (Is (.int .i64 ((EvalF e2 x).1))) W (a0.eval (.tmp 9))) (g29 : (Is (.int .i64 ((EvalF (two 8 e1 e2) x).1))) W (a0.eval (.tmp 29))) (g30 : (Is (.int .i64 ((EvalF (two 8 e1 e2) x).2))) W (a0.eval (.tmp 30))) (g31 : (Is (.int .i64 ((EvalF (two 9 e1 e2) x).1))) W (a0.eval (.tmp 31))) (g32 : (Is (.int .i64 ((EvalF (two 9 e1 e2) x).2))) W (a0.eval (.tmp 32))) (g33 : (Is (.int .i64 ((EvalF (two 10 e1 e2) x).1))) W (a0.eval (.tmp 33))) (g34 : (Is (.int .i64 ((EvalF (two 10 e1 e2) x).2))) W (a0.eval (.tmp 34)))
    (hQ : ∀ a1 W1, Ext W W1 → (∀ t, lc27D.contains (some t) = false → a1.eval (.tmp t) = a0.eval (.tmp t)) → a1.tmps.size = 303 → a1.defers = a0.defers → (Is (.bool true)) W1 (a1.eval (.tmp 6)) → Q .normal a1 W1) : lcC27.wp Try.prog Q a0 W := by
  conv => arg 2; whnf
  refine wp_region_sq 52 lc27D (lc27P x e1 e2 ) 303 (by kernel_rfl) hsz ?_ ?_ ?_
  · exact AllSt.cons (Is.st _) (AllSt.cons (Is.st _) (AllSt.cons (Is.st _) (AllSt.cons (Is.st _) (AllSt.cons (Is.st _) (AllSt.cons (Is.st _) (AllSt.cons (Is.st _) (AllSt.cons (Is.st _) (AllSt.cons (Is.st _) (AllSt.cons (Is.st _) (AllSt.cons (Is.st _) (AllSt.cons (Is.st _) (AllSt.cons (Is.st _) (AllSt.cons (Is.st _) (AllSt.cons (Is.st _) (AllSt.cons (Is.st _) (AllSt.cons (Is.st _) (AllSt.cons (Is.st _) (AllSt.cons (Is.st _) (AllSt.cons (Is.st _) (AllSt.cons (Is.st _) (AllSt.cons (Is.st _) (AllSt.cons (Is.st _) (AllSt.cons (Is.st _) (AllSt.cons (Is.st _) (AllSt.cons (Is.st _) (AllSt.cons (Is.st _) (AllSt.cons (Is.st _) (AllSt.cons (Is.st _) (AllSt.cons (Is.st _) (AllSt.cons (Is.st _) (AllSt.cons (Is.st _) (AllSt.cons (Is.st _) (AllSt.cons (Is.st _) (AllSt.cons (Is.st _) (AllSt.cons (Is.st _) (AllSt.cons (Is.st _) (AllSt.cons (Is.st _) (AllSt.cons (Is.st _) (AllSt.cons (Is.st _) (AllSt.cons (Is.st _) (AllSt.cons (Is.st _) (AllSt.cons (Is.st _) (AllSt.cons (Is.st _) (AllSt.cons (Is.st _) (AllSt.cons (Is.st _) (AllSt.cons (Is.st _) (AllSt.cons (Is.st _) (AllSt.cons (Is.st _) (AllSt.cons (Is.st _) (AllSt.cons (Is.st _) (AllSt.cons (Is.st _) (AllSt.nil))))))))))))))))))))))))))))))))))))))))))))))))))))
  · simp only [List.take_succ_cons, List.take_zero]
    refine ObL.cons trivial (fun v ρ w hx hd S => op_move (p := Is (.int .i64 ((EvalF (two 8 e1 e2) x).2))) (.inl rfl) (S.out rfl ((Is.st _) _ _ _ hx g30))) ?_
    refine ObL.cons trivial (fun v ρ w hx hd S => (op_eql rfl (S.dep 0 rfl (hd 0 rfl)) (S.c _)).mono fun u w1 hu => ⟨hu.1, hu.2.trans (congrArg Value.bool (by rw [k8]; rfl))⟩) ?_
    refine ObL.cons trivial (fun v ρ w hx hd S => op_move (p := Is (.bool true)) (.inl rfl) (S.dep 1 rfl (hd 1 rfl))) ?_
    refine ObL.cons ⟨rfl, fun w u h => h⟩ (fun v ρ w hx hd S => op_move (p := Is (.int .i64 ((EvalF (two 9 e1 e2) x).2))) (.inl rfl) (S.out rfl ((Is.st _) _ _ _ hx g32))) ?_
    refine ObL.cons ⟨rfl, fun w u h => h⟩ (fun v ρ w hx hd S => (op_eql rfl (S.dep 3 rfl (hd 3 rfl)) (S.c _)).mono fun u w1 hu => ⟨hu.1, hu.2.trans (congrArg Value.bool (by rw [k9]; rfl))⟩) ?_
    refine ObL.cons trivial (fun v ρ w hx hd S => op_pick (p := Is (.bool true)) true rfl (S.dep 2 rfl (hd 2 rfl)) (S.dep 4 rfl (hd 4 rfl))) ?_
    refine ObL.cons trivial (fun v ρ w hx hd S => op_move (p := Is (.bool true)) (.inl rfl) (S.dep 5 rfl (hd 5 rfl))) ?_
    refine ObL.cons ⟨rfl, fun w u h => h⟩ (fun v ρ w hx hd S => op_move (p := Is (.int .i64 ((EvalF (two 10 e1 e2) x).2))) (.inl rfl) (S.out rfl ((Is.st _) _ _ _ hx g34))) ?_
    refine ObL.cons ⟨rfl, fun w u h => h⟩ (fun v ρ w hx hd S => (op_eql rfl (S.dep 7 rfl (hd 7 rfl)) (S.c _)).mono fun u w1 hu => ⟨hu.1, hu.2.trans (congrArg Value.bool (by rw [k10]; rfl))⟩) ?_
    refine ObL.cons trivial (fun v ρ w hx hd S => op_pick (p := Is (.bool true)) true rfl (S.dep 6 rfl (hd 6 rfl)) (S.dep 8 rfl (hd 8 rfl))) ?_
    refine ObL.cons trivial (fun v ρ w hx hd S => op_move (p := Is (.bool true)) (.inl rfl) (S.dep 9 rfl (hd 9 rfl))) ?_
    refine ObL.cons ⟨rfl, fun w u h => h⟩ (fun v ρ w hx hd S => op_move (p := Is (.int .i64 ((EvalF (two 8 e1 e2) x).1))) (.inl rfl) (S.out rfl ((Is.st _) _ _ _ hx g29))) ?_
    refine ObL.cons ⟨rfl, fun w u h => h⟩ (fun v ρ w hx hd S => op_move (p := Is (.int .i64 ((EvalF (two 10 e1 e2) x).1))) (.inl rfl) (S.out rfl ((Is.st _) _ _ _ hx g33))) ?_
    refine ObL.cons ⟨rfl, fun w u h => h⟩ (fun v ρ w hx hd S => (op_leq rfl (S.dep 11 rfl (hd 11 rfl)) (S.dep 12 rfl (hd 12 rfl))).mono fun u w1 hu => ⟨hu.1, hu.2.trans (congrArg Value.bool (decide_eq_true z1))⟩) ?_
    refine ObL.cons trivial (fun v ρ w hx hd S => op_pick (p := Is (.bool true)) true rfl (S.dep 10 rfl (hd 10 rfl)) (S.dep 13 rfl (hd 13 rfl))) ?_
    refine ObL.cons trivial (fun v ρ w hx hd S => op_move (p := Is (.bool true)) (.inl rfl) (S.dep 14 rfl (hd 14 rfl))) ?_
    refine ObL.cons ⟨rfl, fun w u h => h⟩ (fun v ρ w hx hd S => op_move (p := Is (.int .i64 ((EvalF (two 10 e1 e2) x).1))) (.inl rfl) (S.out rfl ((Is.st _) _ _ _ hx g33))) ?_
    refine ObL.cons ⟨rfl, fun w u h => h⟩ (fun v ρ w hx hd S => op_move (p := Is (.int .i64 ((EvalF (two 9 e1 e2) x).1))) (.inl rfl) (S.out rfl ((Is.st _) _ _ _ hx g31))) ?_
    refine ObL.cons ⟨rfl, fun w u h => h⟩ (fun v ρ w hx hd S => (op_leq rfl (S.dep 16 rfl (hd 16 rfl)) (S.dep 17 rfl (hd 17 rfl))).mono fun u w1 hu => ⟨hu.1, hu.2.trans (congrArg Value.bool (decide_eq_true z2))⟩) ?_
    refine ObL.cons trivial (fun v ρ w hx hd S => op_pick (p := Is (.bool true)) true rfl (S.dep 15 rfl (hd 15 rfl)) (S.dep 18 rfl (hd 18 rfl))) ?_
    refine ObL.cons trivial (fun v ρ w hx hd S => op_move (p := Is (.bool true)) (.inl rfl) (S.dep 19 rfl (hd 19 rfl))) ?_
    refine ObL.cons ⟨rfl, fun w u h => h⟩ (fun v ρ w hx hd S => op_move (p := Is (.int .i64 ((EvalF (two 9 e1 e2) x).1))) (.inl rfl) (S.out rfl ((Is.st _) _ _ _ hx g31))) ?_
    refine ObL.cons ⟨rfl, fun w u h => h⟩ (fun v ρ w hx hd S => op_move (p := Is (.int .i64 ((EvalF (two 8 e1 e2) x).1))) (.inl rfl) (S.out rfl ((Is.st _) _ _ _ hx g29))) ?_
    refine ObL.cons ⟨rfl, fun w u h => h⟩ (fun v ρ w hx hd S => op_subI rfl (S.dep 21 rfl (hd 21 rfl)) (S.dep 22 rfl (hd 22 rfl)) z6) ?_
    refine ObL.cons ⟨rfl, fun w u h => h⟩ (fun v ρ w hx hd S => (op_leq rfl (S.dep 23 rfl (hd 23 rfl)) (S.c _)).mono fun u w1 hu => ⟨hu.1, hu.2.trans (congrArg Value.bool (decide_eq_true z3))⟩) ?_
    refine ObL.cons trivial (fun v ρ w hx hd S => op_pick (p := Is (.bool true)) true rfl (S.dep 20 rfl (hd 20 rfl)) (S.dep 24 rfl (hd 24 rfl))) ?_
    refine ObL.cons trivial (fun v ρ w hx hd S => op_move (p := Is (.bool true)) (.inl rfl) (S.dep 25 rfl (hd 25 rfl))) ?_
    refine ObL.cons ⟨rfl, fun w u h => h⟩ (fun v ρ w hx hd S => op_move (p := Is (.int .i64 ((EvalF (two 8 e1 e2) x).1))) (.inl rfl) (S.out rfl ((Is.st _) _ _ _ hx g29))) ?_
    refine ObL.cons ⟨rfl, fun w u h => h⟩ (fun v ρ w hx hd S => op_move (p := Is (.int .i64 ((EvalF e2 x).1))) (.inl rfl) (S.out rfl ((Is.st _) _ _ _ hx g9))) ?_
    refine ObL.cons ⟨rfl, fun w u h => h⟩ (fun v ρ w hx hd S => op_mulI rfl (S.dep 27 rfl (hd 27 rfl)) (S.dep 28 rfl (hd 28 rfl)) z7) ?_
    refine ObL.cons ⟨rfl, fun w u h => h⟩ (fun v ρ w hx hd S => op_move (p := Is (.int .i64 ((EvalF e1 x).1))) (.inl rfl) (S.out rfl ((Is.st _) _ _ _ hx g7))) ?_
    refine ObL.cons ⟨rfl, fun w u h => h⟩ (fun v ρ w hx hd S => (op_leq rfl (S.dep 29 rfl (hd 29 rfl)) (S.dep 30 rfl (hd 30 rfl))).mono fun u w1 hu => ⟨hu.1, hu.2.trans (congrArg Value.bool (decide_eq_true z4))⟩) ?_
    refine ObL.cons trivial (fun v ρ w hx hd S => op_pick (p := Is (.bool true)) true rfl (S.dep 26 rfl (hd 26 rfl)) (S.dep 31 rfl (hd 31 rfl))) ?_
    refine ObL.cons trivial (fun v ρ w hx hd S => op_move (p := Is (.bool true)) (.inl rfl) (S.dep 32 rfl (hd 32 rfl))) ?_
    refine ObL.cons ⟨rfl, fun w u h => h⟩ (fun v ρ w hx hd S => op_move (p := Is (.int .i64 ((EvalF e1 x).1))) (.inl rfl) (S.out rfl ((Is.st _) _ _ _ hx g7))) ?_
    refine ObL.cons ⟨rfl, fun w u h => h⟩ (fun v ρ w hx hd S => op_move (p := Is (.int .i64 ((EvalF (two 9 e1 e2) x).1))) (.inl rfl) (S.out rfl ((Is.st _) _ _ _ hx g31))) ?_
    refine ObL.cons ⟨rfl, fun w u h => h⟩ (fun v ρ w hx hd S => op_move (p := Is (.int .i64 ((EvalF e2 x).1))) (.inl rfl) (S.out rfl ((Is.st _) _ _ _ hx g9))) ?_
    refine ObL.cons ⟨rfl, fun w u h => h⟩ (fun v ρ w hx hd S => op_mulI rfl (S.dep 35 rfl (hd 35 rfl)) (S.dep 36 rfl (hd 36 rfl)) z8) ?_
    refine ObL.cons ⟨rfl, fun w u h => h⟩ (fun v ρ w hx hd S => (op_leq rfl (S.dep 34 rfl (hd 34 rfl)) (S.dep 37 rfl (hd 37 rfl))).mono fun u w1 hu => ⟨hu.1, hu.2.trans (congrArg Value.bool (decide_eq_true z5))⟩) ?_
    refine ObL.cons trivial (fun v ρ w hx hd S => op_pick (p := Is (.bool true)) true rfl (S.dep 33 rfl (hd 33 rfl)) (S.dep 38 rfl (hd 38 rfl))) ?_
    refine ObL.cons trivial (fun v ρ w hx hd S => op_move (p := Is (.bool true)) (.inl rfl) (S.dep 39 rfl (hd 39 rfl))) ?_
    refine ObL.cons ⟨rfl, fun w u h => h⟩ (fun v ρ w hx hd S => op_move (p := Is (.int .i64 ((EvalF (two 9 e1 e2) x).1))) (.inl rfl) (S.out rfl ((Is.st _) _ _ _ hx g31))) ?_
    refine ObL.cons ⟨rfl, fun w u h => h⟩ (fun v ρ w hx hd S => op_move (p := Is (.int .i64 ((EvalF (two 8 e1 e2) x).1))) (.inl rfl) (S.out rfl ((Is.st _) _ _ _ hx g29))) ?_
    refine ObL.cons ⟨rfl, fun w u h => h⟩ (fun v ρ w hx hd S => op_eql rfl (S.dep 41 rfl (hd 41 rfl)) (S.dep 42 rfl (hd 42 rfl))) ?_
    refine ObL.cons ⟨rfl, fun w u h => h⟩ (fun v ρ w hx hd S => op_move (p := Is (.int .i64 ((EvalF (two 8 e1 e2) x).1))) (.inl rfl) (S.out rfl ((Is.st _) _ _ _ hx g29))) ?_
    refine ObL.cons ⟨rfl, fun w u h => h⟩ (fun v ρ w hx hd S => op_move (p := Is (.int .i64 ((EvalF e2 x).1))) (.inl rfl) (S.out rfl ((Is.st _) _ _ _ hx g9))) ?_
    refine ObL.cons ⟨rfl, fun w u h => h⟩ (fun v ρ w hx hd S => op_mulI rfl (S.dep 44 rfl (hd 44 rfl)) (S.dep 45 rfl (hd 45 rfl)) z7) ?_
    refine ObL.cons ⟨rfl, fun w u h => h⟩ (fun v ρ w hx hd S => op_move (p := Is (.int .i64 ((EvalF e1 x).1))) (.inl rfl) (S.out rfl ((Is.st _) _ _ _ hx g7))) ?_
    refine ObL.cons ⟨rfl, fun w u h => h⟩ (fun v ρ w hx hd S => op_eql rfl (S.dep 46 rfl (hd 46 rfl)) (S.dep 47 rfl (hd 47 rfl))) ?_
    refine ObL.cons ⟨rfl, fun w u h => h⟩ (fun v ρ w hx hd S => (op_eqlB rfl (S.dep 43 rfl (hd 43 rfl)) (S.dep 48 rfl (hd 48 rfl))).mono fun u w1 hu => ⟨hu.1, hu.2.trans (congrArg Value.bool z9)⟩) ?_
    refine ObL.cons trivial (fun v ρ w hx hd S => op_pick (p := Is (.bool true)) true rfl (S.dep 40 rfl (hd 40 rfl)) (S.dep 49 rfl (hd 49 rfl))) ?_
    refine ObL.cons trivial (fun v ρ w hx hd S => op_move (p := Is (.bool true)) (.inr rfl) (S.dep 50 rfl (hd 50 rfl))) ?_
    exact ObL.nil
  · intro v a1 w hx hPP S hs hdf
    refine wpList_nil ?_
    exact hQ a1 w hx S.o hs hdf (S.dep 51 rfl (hPP 51 (by decide)))

noncomputable def lcTail : Code := ((Try.f6.body.bind (behind 20)).getD .skip)
set_option maxRecDepth 100000 in
set_option maxHeartbeats 2000000 in
theorem lc_rest (x : Ev) (hok : x.ok) (e1 e2 : Ex) (w : World) (hc2 : formF 23 e1 = true) (hc3 : formF 23 e2 = true) (hA0 : (EvalF e1 x).2 = 0) (hB0 : (EvalF e2 x).2 = 0) (aR : Act) (WR : World) (hsR : aR.tmps.size = 303) (hdR : aR.defers = []) (hW : Ext w WR) (g3 : (VarP 7 (ExA e1)) WR (aR.eval (.tmp 3))) (g4 : (VarP 7 (ExA e2)) WR (aR.eval (.tmp 4))) (g5 : (VarP 17 (Is (.agg x.cells.toArray))) WR (aR.eval (.tmp 5))) (g7 : (Is (.int .i64 ((EvalF e1 x).1))) WR (aR.eval (.tmp 7))) (g9 : (Is (.int .i64 ((EvalF e2 x).1))) WR (aR.eval (.tmp 9))) :
    lcTail.wp Try.prog (bodyPost Try.prog Try.f6 (fun en w1 => en = .returned (.bool true) ∧ Ext w w1)) aR WR := by
  conv => arg 2; whnf
  have hap : ∀ op : Int, 3 ≤ op → op ≤ 10 → EvalF (two op e1 e2) x = applyF op (EvalF e1 x).1 (EvalF e2 x).1 := fun op h3 h10 => by rw [two_eval h3 h10 hc2 hc3, if_neg (by simpa using hA0), if_neg (by simpa using hB0)]
  have hia := EvalF_in hc2 hA0
  have hib := EvalF_in hc3 hB0
  rw [inR_iff] at hia hib
  refine wp_seq (lc22 x hok e1 e2   _ _ _ hsR g3 g4 g5 fun a35 W35 hx35 ho35 hs35 hd35 g29 g30 => ?_)
  refine then_normal ?_
  replace g3 : (VarP 7 (ExA e1)) W35 (a35.eval (.tmp 3)) := by rw [ho35 3 rfl]; exact (VarP.st ExA.st) _ _ _ hx35 g3
  replace g4 : (VarP 7 (ExA e2)) W35 (a35.eval (.tmp 4)) := by rw [ho35 4 rfl]; exact (VarP.st ExA.st) _ _ _ hx35 g4
  replace g5 : (VarP 17 (Is (.agg x.cells.toArray))) W35 (a35.eval (.tmp 5)) := by rw [ho35 5 rfl]; exact (VarP.st (Is.st _)) _ _ _ hx35 g5
  replace g7 : (Is (.int .i64 ((EvalF e1 x).1))) W35 (a35.eval (.tmp 7)) := by rw [ho35 7 rfl]; exact (Is.st _) _ _ _ hx35 g7
  replace g9 : (Is (.int .i64 ((EvalF e2 x).1))) W35 (a35.eval (.tmp 9)) := by rw [ho35 9 rfl]; exact (Is.st _) _ _ _ hx35 g9
  replace hW : Ext w W35 := hW.trans hx35
  replace hd35 : a35.defers = [] := hd35.trans hdR
  clear hx35 ho35
  refine wp_seq (lc23 x hok e1 e2   _ _ _ hs35 g3 g4 g5 fun a36 W36 hx36 ho36 hs36 hd36 g31 g32 => ?_)
  refine then_normal ?_
  replace g3 : (VarP 7 (ExA e1)) W36 (a36.eval (.tmp 3)) := by rw [ho36 3 rfl]; exact (VarP.st ExA.st) _ _ _ hx36 g3
  replace g4 : (VarP 7 (ExA e2)) W36 (a36.eval (.tmp 4)) := by rw [ho36 4 rfl]; exact (VarP.st ExA.st) _ _ _ hx36 g4
  replace g5 : (VarP 17 (Is (.agg x.cells.toArray))) W36 (a36.eval (.tmp 5)) := by rw [ho36 5 rfl]; exact (VarP.st (Is.st _)) _ _ _ hx36 g5
  replace g7 : (Is (.int .i64 ((EvalF e1 x).1))) W36 (a36.eval (.tmp 7)) := by rw [ho36 7 rfl]; exact (Is.st _) _ _ _ hx36 g7
  replace g9 : (Is (.int .i64 ((EvalF e2 x).1))) W36 (a36.eval (.tmp 9)) := by rw [ho36 9 rfl]; exact (Is.st _) _ _ _ hx36 g9
  replace g29 : (Is (.int .i64 ((EvalF (two 8 e1 e2) x).1))) W36 (a36.eval (.tmp 29)) := by rw [ho36 29 rfl]; exact (Is.st _) _ _ _ hx36 g29
  replace g30 : (Is (.int .i64 ((EvalF (two 8 e1 e2) x).2))) W36 (a36.eval (.tmp 30)) := by rw [ho36 30 rfl]; exact (Is.st _) _ _ _ hx36 g30
  replace hW : Ext w W36 := hW.trans hx36
  replace hd36 : a36.defers = [] := hd36.trans hd35
  clear hx36 ho36
  refine wp_seq (lc24 x hok e1 e2   _ _ _ hs36 g3 g4 g5 fun a37 W37 hx37 ho37 hs37 hd37 g33 g34 => ?_)
  refine then_normal ?_
  replace g3 : (VarP 7 (ExA e1)) W37 (a37.eval (.tmp 3)) := by rw [ho37 3 rfl]; exact (VarP.st ExA.st) _ _ _ hx37 g3
  replace g4 : (VarP 7 (ExA e2)) W37 (a37.eval (.tmp 4)) := by rw [ho37 4 rfl]; exact (VarP.st ExA.st) _ _ _ hx37 g4
  replace g5 : (VarP 17 (Is (.agg x.cells.toArray))) W37 (a37.eval (.tmp 5)) := by rw [ho37 5 rfl]; exact (VarP.st (Is.st _)) _ _ _ hx37 g5
  replace g7 : (Is (.int .i64 ((EvalF e1 x).1))) W37 (a37.eval (.tmp 7)) := by rw [ho37 7 rfl]; exact (Is.st _) _ _ _ hx37 g7
  replace g9 : (Is (.int .i64 ((EvalF e2 x).1))) W37 (a37.eval (.tmp 9)) := by rw [ho37 9 rfl]; exact (Is.st _) _ _ _ hx37 g9
  replace g29 : (Is (.int .i64 ((EvalF (two 8 e1 e2) x).1))) W37 (a37.eval (.tmp 29)) := by rw [ho37 29 rfl]; exact (Is.st _) _ _ _ hx37 g29
  replace g30 : (Is (.int .i64 ((EvalF (two 8 e1 e2) x).2))) W37 (a37.eval (.tmp 30)) := by rw [ho37 30 rfl]; exact (Is.st _) _ _ _ hx37 g30
  replace g31 : (Is (.int .i64 ((EvalF (two 9 e1 e2) x).1))) W37 (a37.eval (.tmp 31)) := by rw [ho37 31 rfl]; exact (Is.st _) _ _ _ hx37 g31
  replace g32 : (Is (.int .i64 ((EvalF (two 9 e1 e2) x).2))) W37 (a37.eval (.tmp 32)) := by rw [ho37 32 rfl]; exact (Is.st _) _ _ _ hx37 g32
  replace hW : Ext w W37 := hW.trans hx37
  replace hd37 : a37.defers = [] := hd37.trans hd36
  clear hx37 ho37
  refine wp_seq ?_
  by_cases hb0 : (EvalF e2 x).1 ≤ 0
  case pos =>
    have k8 : EvalF (two 8 e1 e2) x = (0, 70) := by rw [hap 8 (by decide) (by decide)]; exact div_bad (by decide) (by decide) (inR_iff.2 hia) (inR_iff.2 hib) hb0
    have k9 : EvalF (two 9 e1 e2) x = (0, 70) := by rw [hap 9 (by decide) (by decide)]; exact div_bad (by decide) (by decide) (inR_iff.2 hia) (inR_iff.2 hib) hb0
    have k10 : EvalF (two 10 e1 e2) x = (0, 70) := by rw [hap 10 (by decide) (by decide)]; exact div_bad (by decide) (by decide) (inR_iff.2 hia) (inR_iff.2 hib) hb0
    refine wp_seq (lc25a x hok e1 e2  hb0 _ _ _ hs37 g9 fun a38 W38 hx38 ho38 hs38 hd38 g241 => ?_)
    refine then_normal ?_
    replace g3 : (VarP 7 (ExA e1)) W38 (a38.eval (.tmp 3)) := by rw [ho38 3 rfl]; exact (VarP.st ExA.st) _ _ _ hx38 g3
    replace g4 : (VarP 7 (ExA e2)) W38 (a38.eval (.tmp 4)) := by rw [ho38 4 rfl]; exact (VarP.st ExA.st) _ _ _ hx38 g4
    replace g5 : (VarP 17 (Is (.agg x.cells.toArray))) W38 (a38.eval (.tmp 5)) := by rw [ho38 5 rfl]; exact (VarP.st (Is.st _)) _ _ _ hx38 g5
    replace g7 : (Is (.int .i64 ((EvalF e1 x).1))) W38 (a38.eval (.tmp 7)) := by rw [ho38 7 rfl]; exact (Is.st _) _ _ _ hx38 g7
    replace g9 : (Is (.int .i64 ((EvalF e2 x).1))) W38 (a38.eval (.tmp 9)) := by rw [ho38 9 rfl]; exact (Is.st _) _ _ _ hx38 g9
    replace g29 : (Is (.int .i64 ((EvalF (two 8 e1 e2) x).1))) W38 (a38.eval (.tmp 29)) := by rw [ho38 29 rfl]; exact (Is.st _) _ _ _ hx38 g29
    replace g30 : (Is (.int .i64 ((EvalF (two 8 e1 e2) x).2))) W38 (a38.eval (.tmp 30)) := by rw [ho38 30 rfl]; exact (Is.st _) _ _ _ hx38 g30
    replace g31 : (Is (.int .i64 ((EvalF (two 9 e1 e2) x).1))) W38 (a38.eval (.tmp 31)) := by rw [ho38 31 rfl]; exact (Is.st _) _ _ _ hx38 g31
    replace g32 : (Is (.int .i64 ((EvalF (two 9 e1 e2) x).2))) W38 (a38.eval (.tmp 32)) := by rw [ho38 32 rfl]; exact (Is.st _) _ _ _ hx38 g32
    replace g33 : (Is (.int .i64 ((EvalF (two 10 e1 e2) x).1))) W38 (a38.eval (.tmp 33)) := by rw [ho38 33 rfl]; exact (Is.st _) _ _ _ hx38 g33
    replace g34 : (Is (.int .i64 ((EvalF (two 10 e1 e2) x).2))) W38 (a38.eval (.tmp 34)) := by rw [ho38 34 rfl]; exact (Is.st _) _ _ _ hx38 g34
    replace hW : Ext w W38 := hW.trans hx38
    replace hd38 : a38.defers = [] := hd38.trans hd37
    clear hx38 ho38
    refine cond_t g241 ?_
    refine wp_seq (lc26 x hok e1 e2  k8 k9 k10 _ _ _ hs38 g30 g32 g34 fun a39 W39 hx39 ho39 hs39 hd39 g6 => ?_)
    refine then_normal ?_
    replace g3 : (VarP 7 (ExA e1)) W39 (a39.eval (.tmp 3)) := by rw [ho39 3 rfl]; exact (VarP.st ExA.st) _ _ _ hx39 g3
    replace g4 : (VarP 7 (ExA e2)) W39 (a39.eval (.tmp 4)) := by rw [ho39 4 rfl]; exact (VarP.st ExA.st) _ _ _ hx39 g4
    replace g5 : (VarP 17 (Is (.agg x.cells.toArray))) W39 (a39.eval (.tmp 5)) := by rw [ho39 5 rfl]; exact (VarP.st (Is.st _)) _ _ _ hx39 g5
    replace g7 : (Is (.int .i64 ((EvalF e1 x).1))) W39 (a39.eval (.tmp 7)) := by rw [ho39 7 rfl]; exact (Is.st _) _ _ _ hx39 g7
    replace g9 : (Is (.int .i64 ((EvalF e2 x).1))) W39 (a39.eval (.tmp 9)) := by rw [ho39 9 rfl]; exact (Is.st _) _ _ _ hx39 g9
    replace g29 : (Is (.int .i64 ((EvalF (two 8 e1 e2) x).1))) W39 (a39.eval (.tmp 29)) := by rw [ho39 29 rfl]; exact (Is.st _) _ _ _ hx39 g29
    replace g30 : (Is (.int .i64 ((EvalF (two 8 e1 e2) x).2))) W39 (a39.eval (.tmp 30)) := by rw [ho39 30 rfl]; exact (Is.st _) _ _ _ hx39 g30
    replace g31 : (Is (.int .i64 ((EvalF (two 9 e1 e2) x).1))) W39 (a39.eval (.tmp 31)) := by rw [ho39 31 rfl]; exact (Is.st _) _ _ _ hx39 g31
    replace g32 : (Is (.int .i64 ((EvalF (two 9 e1 e2) x).2))) W39 (a39.eval (.tmp 32)) := by rw [ho39 32 rfl]; exact (Is.st _) _ _ _ hx39 g32
    replace g33 : (Is (.int .i64 ((EvalF (two 10 e1 e2) x).1))) W39 (a39.eval (.tmp 33)) := by rw [ho39 33 rfl]; exact (Is.st _) _ _ _ hx39 g33
    replace g34 : (Is (.int .i64 ((EvalF (two 10 e1 e2) x).2))) W39 (a39.eval (.tmp 34)) := by rw [ho39 34 rfl]; exact (Is.st _) _ _ _ hx39 g34
    replace g241 : (Is (.bool true)) W39 (a39.eval (.tmp 241)) := by rw [ho39 241 rfl]; exact (Is.st _) _ _ _ hx39 g241
    replace hW : Ext w W39 := hW.trans hx39
    replace hd39 : a39.defers = [] := hd39.trans hd38
    clear hx39 ho39
    refine wp_ret ?_
    show bodyPost Try.prog Try.f6 (fun en w1 => en = .returned (.bool true) ∧ Ext w w1) .ret _ _
    exact ret_is Try.results6 hd39 g6 ⟨rfl, hW⟩
  refine wp_seq (lc25b x hok e1 e2  hb0 _ _ _ hs37 g9 fun a40 W40 hx40 ho40 hs40 hd40 g241 => ?_)
  refine then_normal ?_
  replace g3 : (VarP 7 (ExA e1)) W40 (a40.eval (.tmp 3)) := by rw [ho40 3 rfl]; exact (VarP.st ExA.st) _ _ _ hx40 g3
  replace g4 : (VarP 7 (ExA e2)) W40 (a40.eval (.tmp 4)) := by rw [ho40 4 rfl]; exact (VarP.st ExA.st) _ _ _ hx40 g4
  replace g5 : (VarP 17 (Is (.agg x.cells.toArray))) W40 (a40.eval (.tmp 5)) := by rw [ho40 5 rfl]; exact (VarP.st (Is.st _)) _ _ _ hx40 g5
  replace g7 : (Is (.int .i64 ((EvalF e1 x).1))) W40 (a40.eval (.tmp 7)) := by rw [ho40 7 rfl]; exact (Is.st _) _ _ _ hx40 g7
  replace g9 : (Is (.int .i64 ((EvalF e2 x).1))) W40 (a40.eval (.tmp 9)) := by rw [ho40 9 rfl]; exact (Is.st _) _ _ _ hx40 g9
  replace g29 : (Is (.int .i64 ((EvalF (two 8 e1 e2) x).1))) W40 (a40.eval (.tmp 29)) := by rw [ho40 29 rfl]; exact (Is.st _) _ _ _ hx40 g29
  replace g30 : (Is (.int .i64 ((EvalF (two 8 e1 e2) x).2))) W40 (a40.eval (.tmp 30)) := by rw [ho40 30 rfl]; exact (Is.st _) _ _ _ hx40 g30
  replace g31 : (Is (.int .i64 ((EvalF (two 9 e1 e2) x).1))) W40 (a40.eval (.tmp 31)) := by rw [ho40 31 rfl]; exact (Is.st _) _ _ _ hx40 g31
  replace g32 : (Is (.int .i64 ((EvalF (two 9 e1 e2) x).2))) W40 (a40.eval (.tmp 32)) := by rw [ho40 32 rfl]; exact (Is.st _) _ _ _ hx40 g32
  replace g33 : (Is (.int .i64 ((EvalF (two 10 e1 e2) x).1))) W40 (a40.eval (.tmp 33)) := by rw [ho40 33 rfl]; exact (Is.st _) _ _ _ hx40 g33
  replace g34 : (Is (.int .i64 ((EvalF (two 10 e1 e2) x).2))) W40 (a40.eval (.tmp 34)) := by rw [ho40 34 rfl]; exact (Is.st _) _ _ _ hx40 g34
  replace hW : Ext w W40 := hW.trans hx40
  replace hd40 : a40.defers = [] := hd40.trans hd37
  clear hx40 ho40
  refine cond_f g241 ?_
  refine wp_skip ?_
  refine then_normal ?_
  obtain ⟨k8, k9, k10, z1, z2, z3, z4, z5, z6, z7, z8, z9⟩ := div_good (a := (EvalF e1 x).1) (b := (EvalF e2 x).1) hia hib (by omega)
  have q8 : EvalF (two 8 e1 e2) x = divF (EvalF e1 x).1 (EvalF e2 x).1 8 := hap 8 (by decide) (by decide)
  have q9 : EvalF (two 9 e1 e2) x = divF (EvalF e1 x).1 (EvalF e2 x).1 9 := hap 9 (by decide) (by decide)
  have q10 : EvalF (two 10 e1 e2) x = divF (EvalF e1 x).1 (EvalF e2 x).1 10 := hap 10 (by decide) (by decide)
  rw [← q8] at k8 z1 z3 z4 z6 z7 z9
  rw [← q9] at k9 z2 z3 z5 z6 z8 z9
  rw [← q10] at k10 z1 z2
  refine wp_seq (lc27 x hok e1 e2  k8 k9 k10 z1 z2 z3 z4 z5 z6 z7 z8 z9 _ _ _ hs40 g7 g9 g29 g30 g31 g32 g33 g34 fun a41 W41 hx41 ho41 hs41 hd41 g6 => ?_)
  refine then_normal ?_
  replace g3 : (VarP 7 (ExA e1)) W41 (a41.eval (.tmp 3)) := by rw [ho41 3 rfl]; exact (VarP.st ExA.st) _ _ _ hx41 g3
  replace g4 : (VarP 7 (ExA e2)) W41 (a41.eval (.tmp 4)) := by rw [ho41 4 rfl]; exact (VarP.st ExA.st) _ _ _ hx41 g4
  replace g5 : (VarP 17 (Is (.agg x.cells.toArray))) W41 (a41.eval (.tmp 5)) := by rw [ho41 5 rfl]; exact (VarP.st (Is.st _)) _ _ _ hx41 g5
  replace g7 : (Is (.int .i64 ((EvalF e1 x).1))) W41 (a41.eval (.tmp 7)) := by rw [ho41 7 rfl]; exact (Is.st _) _ _ _ hx41 g7
  replace g9 : (Is (.int .i64 ((EvalF e2 x).1))) W41 (a41.eval (.tmp 9)) := by rw [ho41 9 rfl]; exact (Is.st _) _ _ _ hx41 g9
  replace g29 : (Is (.int .i64 ((EvalF (two 8 e1 e2) x).1))) W41 (a41.eval (.tmp 29)) := by rw [ho41 29 rfl]; exact (Is.st _) _ _ _ hx41 g29
  replace g30 : (Is (.int .i64 ((EvalF (two 8 e1 e2) x).2))) W41 (a41.eval (.tmp 30)) := by rw [ho41 30 rfl]; exact (Is.st _) _ _ _ hx41 g30
  replace g31 : (Is (.int .i64 ((EvalF (two 9 e1 e2) x).1))) W41 (a41.eval (.tmp 31)) := by rw [ho41 31 rfl]; exact (Is.st _) _ _ _ hx41 g31
  replace g32 : (Is (.int .i64 ((EvalF (two 9 e1 e2) x).2))) W41 (a41.eval (.tmp 32)) := by rw [ho41 32 rfl]; exact (Is.st _) _ _ _ hx41 g32
  replace g33 : (Is (.int .i64 ((EvalF (two 10 e1 e2) x).1))) W41 (a41.eval (.tmp 33)) := by rw [ho41 33 rfl]; exact (Is.st _) _ _ _ hx41 g33
  replace g34 : (Is (.int .i64 ((EvalF (two 10 e1 e2) x).2))) W41 (a41.eval (.tmp 34)) := by rw [ho41 34 rfl]; exact (Is.st _) _ _ _ hx41 g34
  replace g241 : (Is (.bool false)) W41 (a41.eval (.tmp 241)) := by rw [ho41 241 rfl]; exact (Is.st _) _ _ _ hx41 g241
  replace hW : Ext w W41 := hW.trans hx41
  replace hd41 : a41.defers = [] := hd41.trans hd40
  clear hx41 ho41
  refine wp_ret ?_
  show bodyPost Try.prog Try.f6 (fun en w1 => en = .returned (.bool true) ∧ Ext w w1) .ret _ _
  exact ret_is Try.results6 hd41 g6 ⟨rfl, hW⟩
set_option maxRecDepth 100000 in
set_option maxHeartbeats 2000000 in
theorem tevalCombines_any (x : Ev) (hok : x.ok) (c1 c2 : List Value) (n1 n2 : Nat) (e1 e2 : Ex) (w : World) (he1 : ExIn w n1 c1 e1) (he2 : ExIn w n2 c2 e2) : Calls Try.prog 6 #[.agg c1.toArray, .agg c2.toArray, .agg x.cells.toArray] w fun en w1 => en = .returned (.bool true) ∧ Ext w w1 := by
  go_enter Try.func6, Try.ntmps6
  have hW : Ext w w := .refl _
  have hs0 : True := trivial
  have hd0 : ([] : List Deferred) = [] := rfl
  have g0 : (ExA e1) w (.agg c1.toArray) := ⟨c1, rfl, n1, he1⟩
  have g1 : (ExA e2) w (.agg c2.toArray) := ⟨c2, rfl, n2, he2⟩
  have g2 : (Is (.agg x.cells.toArray)) w (.agg x.cells.toArray) := rfl
  refine wp_seq (lc0 x hok e1 e2   _ _ _ rfl g0 g1 g2 fun a1 W1 hx1 ho1 hs1 hd1 g3 g4 g5 => ?_)
  refine then_normal ?_
  replace hW : Ext w W1 := hW.trans hx1
  replace hd1 : a1.defers = [] := hd1.trans hd0
  clear hx1 ho1
  refine wp_seq ?_
  refine wp_seq (lc1 x hok e1 e2   _ _ _ hs1  fun a2 W2 hx2 ho2 hs2 hd2 g36 => ?_)
  refine then_normal ?_
  replace g3 : (VarP 7 (ExA e1)) W2 (a2.eval (.tmp 3)) := by rw [ho2 3 rfl]; exact (VarP.st ExA.st) _ _ _ hx2 g3
  replace g4 : (VarP 7 (ExA e2)) W2 (a2.eval (.tmp 4)) := by rw [ho2 4 rfl]; exact (VarP.st ExA.st) _ _ _ hx2 g4
  replace g5 : (VarP 17 (Is (.agg x.cells.toArray))) W2 (a2.eval (.tmp 5)) := by rw [ho2 5 rfl]; exact (VarP.st (Is.st _)) _ _ _ hx2 g5
  replace hW : Ext w W2 := hW.trans hx2
  replace hd2 : a2.defers = [] := hd2.trans hd1
  clear hx2 ho2
  refine cond_f g36 ?_
  refine wp_skip ?_
  refine then_normal ?_
  refine wp_seq ?_
  by_cases hc0 : (fewF e1) = false
  case pos =>
    refine wp_seq (lc3a x hok e1 e2  hc0 _ _ _ hs2 g3 fun a3 W3 hx3 ho3 hs3 hd3 g54 => ?_)
    refine then_normal ?_
    replace g3 : (VarP 7 (ExA e1)) W3 (a3.eval (.tmp 3)) := by rw [ho3 3 rfl]; exact (VarP.st ExA.st) _ _ _ hx3 g3
    replace g4 : (VarP 7 (ExA e2)) W3 (a3.eval (.tmp 4)) := by rw [ho3 4 rfl]; exact (VarP.st ExA.st) _ _ _ hx3 g4
    replace g5 : (VarP 17 (Is (.agg x.cells.toArray))) W3 (a3.eval (.tmp 5)) := by rw [ho3 5 rfl]; exact (VarP.st (Is.st _)) _ _ _ hx3 g5
    replace g36 : (Is (.bool false)) W3 (a3.eval (.tmp 36)) := by rw [ho3 36 rfl]; exact (Is.st _) _ _ _ hx3 g36
    replace hW : Ext w W3 := hW.trans hx3
    replace hd3 : a3.defers = [] := hd3.trans hd2
    clear hx3 ho3
    refine cond_t g54 ?_
    refine wp_seq (lc4 x hok e1 e2   _ _ _ hs3  fun a4 W4 hx4 ho4 hs4 hd4 g6 => ?_)
    refine then_normal ?_
    replace g3 : (VarP 7 (ExA e1)) W4 (a4.eval (.tmp 3)) := by rw [ho4 3 rfl]; exact (VarP.st ExA.st) _ _ _ hx4 g3
    replace g4 : (VarP 7 (ExA e2)) W4 (a4.eval (.tmp 4)) := by rw [ho4 4 rfl]; exact (VarP.st ExA.st) _ _ _ hx4 g4
    replace g5 : (VarP 17 (Is (.agg x.cells.toArray))) W4 (a4.eval (.tmp 5)) := by rw [ho4 5 rfl]; exact (VarP.st (Is.st _)) _ _ _ hx4 g5
    replace g36 : (Is (.bool false)) W4 (a4.eval (.tmp 36)) := by rw [ho4 36 rfl]; exact (Is.st _) _ _ _ hx4 g36
    replace g54 : (Is (.bool true)) W4 (a4.eval (.tmp 54)) := by rw [ho4 54 rfl]; exact (Is.st _) _ _ _ hx4 g54
    replace hW : Ext w W4 := hW.trans hx4
    replace hd4 : a4.defers = [] := hd4.trans hd3
    clear hx4 ho4
    refine wp_ret ?_
    show bodyPost Try.prog Try.f6 (fun en w1 => en = .returned (.bool true) ∧ Ext w w1) .ret _ _
    exact ret_is Try.results6 hd4 g6 ⟨rfl, hW⟩
  rw [Bool.not_eq_false] at hc0
  by_cases hc1 : (fewF e2) = false
  case pos =>
    refine wp_seq (lc3b x hok e1 e2  hc0 hc1 _ _ _ hs2 g3 g4 fun a5 W5 hx5 ho5 hs5 hd5 g54 => ?_)
    refine then_normal ?_
    replace g3 : (VarP 7 (ExA e1)) W5 (a5.eval (.tmp 3)) := by rw [ho5 3 rfl]; exact (VarP.st ExA.st) _ _ _ hx5 g3
    replace g4 : (VarP 7 (ExA e2)) W5 (a5.eval (.tmp 4)) := by rw [ho5 4 rfl]; exact (VarP.st ExA.st) _ _ _ hx5 g4
    replace g5 : (VarP 17 (Is (.agg x.cells.toArray))) W5 (a5.eval (.tmp 5)) := by rw [ho5 5 rfl]; exact (VarP.st (Is.st _)) _ _ _ hx5 g5
    replace g36 : (Is (.bool false)) W5 (a5.eval (.tmp 36)) := by rw [ho5 36 rfl]; exact (Is.st _) _ _ _ hx5 g36
    replace hW : Ext w W5 := hW.trans hx5
    replace hd5 : a5.defers = [] := hd5.trans hd2
    clear hx5 ho5
    refine cond_t g54 ?_
    refine wp_seq (lc4 x hok e1 e2   _ _ _ hs5  fun a6 W6 hx6 ho6 hs6 hd6 g6 => ?_)
    refine then_normal ?_
    replace g3 : (VarP 7 (ExA e1)) W6 (a6.eval (.tmp 3)) := by rw [ho6 3 rfl]; exact (VarP.st ExA.st) _ _ _ hx6 g3
    replace g4 : (VarP 7 (ExA e2)) W6 (a6.eval (.tmp 4)) := by rw [ho6 4 rfl]; exact (VarP.st ExA.st) _ _ _ hx6 g4
    replace g5 : (VarP 17 (Is (.agg x.cells.toArray))) W6 (a6.eval (.tmp 5)) := by rw [ho6 5 rfl]; exact (VarP.st (Is.st _)) _ _ _ hx6 g5
    replace g36 : (Is (.bool false)) W6 (a6.eval (.tmp 36)) := by rw [ho6 36 rfl]; exact (Is.st _) _ _ _ hx6 g36
    replace g54 : (Is (.bool true)) W6 (a6.eval (.tmp 54)) := by rw [ho6 54 rfl]; exact (Is.st _) _ _ _ hx6 g54
    replace hW : Ext w W6 := hW.trans hx6
    replace hd6 : a6.defers = [] := hd6.trans hd5
    clear hx6 ho6
    refine wp_ret ?_
    show bodyPost Try.prog Try.f6 (fun en w1 => en = .returned (.bool true) ∧ Ext w w1) .ret _ _
    exact ret_is Try.results6 hd6 g6 ⟨rfl, hW⟩
  rw [Bool.not_eq_false] at hc1
  by_cases hc2 : (formF 23 e1) = false
  case pos =>
    refine wp_seq (lc3c x hok e1 e2  hc0 hc1 hc2 _ _ _ hs2 g3 g4 fun a7 W7 hx7 ho7 hs7 hd7 g54 => ?_)
    refine then_normal ?_
    replace g3 : (VarP 7 (ExA e1)) W7 (a7.eval (.tmp 3)) := by rw [ho7 3 rfl]; exact (VarP.st ExA.st) _ _ _ hx7 g3
    replace g4 : (VarP 7 (ExA e2)) W7 (a7.eval (.tmp 4)) := by rw [ho7 4 rfl]; exact (VarP.st ExA.st) _ _ _ hx7 g4
    replace g5 : (VarP 17 (Is (.agg x.cells.toArray))) W7 (a7.eval (.tmp 5)) := by rw [ho7 5 rfl]; exact (VarP.st (Is.st _)) _ _ _ hx7 g5
    replace g36 : (Is (.bool false)) W7 (a7.eval (.tmp 36)) := by rw [ho7 36 rfl]; exact (Is.st _) _ _ _ hx7 g36
    replace hW : Ext w W7 := hW.trans hx7
    replace hd7 : a7.defers = [] := hd7.trans hd2
    clear hx7 ho7
    refine cond_t g54 ?_
    refine wp_seq (lc4 x hok e1 e2   _ _ _ hs7  fun a8 W8 hx8 ho8 hs8 hd8 g6 => ?_)
    refine then_normal ?_
    replace g3 : (VarP 7 (ExA e1)) W8 (a8.eval (.tmp 3)) := by rw [ho8 3 rfl]; exact (VarP.st ExA.st) _ _ _ hx8 g3
    replace g4 : (VarP 7 (ExA e2)) W8 (a8.eval (.tmp 4)) := by rw [ho8 4 rfl]; exact (VarP.st ExA.st) _ _ _ hx8 g4
    replace g5 : (VarP 17 (Is (.agg x.cells.toArray))) W8 (a8.eval (.tmp 5)) := by rw [ho8 5 rfl]; exact (VarP.st (Is.st _)) _ _ _ hx8 g5
    replace g36 : (Is (.bool false)) W8 (a8.eval (.tmp 36)) := by rw [ho8 36 rfl]; exact (Is.st _) _ _ _ hx8 g36
    replace g54 : (Is (.bool true)) W8 (a8.eval (.tmp 54)) := by rw [ho8 54 rfl]; exact (Is.st _) _ _ _ hx8 g54
    replace hW : Ext w W8 := hW.trans hx8
    replace hd8 : a8.defers = [] := hd8.trans hd7
    clear hx8 ho8
    refine wp_ret ?_
    show bodyPost Try.prog Try.f6 (fun en w1 => en = .returned (.bool true) ∧ Ext w w1) .ret _ _
    exact ret_is Try.results6 hd8 g6 ⟨rfl, hW⟩
  rw [Bool.not_eq_false] at hc2
  by_cases hc3 : (formF 23 e2) = false
  case pos =>
    refine wp_seq (lc3d x hok e1 e2  hc0 hc1 hc2 hc3 _ _ _ hs2 g3 g4 fun a9 W9 hx9 ho9 hs9 hd9 g54 => ?_)
    refine then_normal ?_
    replace g3 : (VarP 7 (ExA e1)) W9 (a9.eval (.tmp 3)) := by rw [ho9 3 rfl]; exact (VarP.st ExA.st) _ _ _ hx9 g3
    replace g4 : (VarP 7 (ExA e2)) W9 (a9.eval (.tmp 4)) := by rw [ho9 4 rfl]; exact (VarP.st ExA.st) _ _ _ hx9 g4
    replace g5 : (VarP 17 (Is (.agg x.cells.toArray))) W9 (a9.eval (.tmp 5)) := by rw [ho9 5 rfl]; exact (VarP.st (Is.st _)) _ _ _ hx9 g5
    replace g36 : (Is (.bool false)) W9 (a9.eval (.tmp 36)) := by rw [ho9 36 rfl]; exact (Is.st _) _ _ _ hx9 g36
    replace hW : Ext w W9 := hW.trans hx9
    replace hd9 : a9.defers = [] := hd9.trans hd2
    clear hx9 ho9
    refine cond_t g54 ?_
    refine wp_seq (lc4 x hok e1 e2   _ _ _ hs9  fun a10 W10 hx10 ho10 hs10 hd10 g6 => ?_)
    refine then_normal ?_
    replace g3 : (VarP 7 (ExA e1)) W10 (a10.eval (.tmp 3)) := by rw [ho10 3 rfl]; exact (VarP.st ExA.st) _ _ _ hx10 g3
    replace g4 : (VarP 7 (ExA e2)) W10 (a10.eval (.tmp 4)) := by rw [ho10 4 rfl]; exact (VarP.st ExA.st) _ _ _ hx10 g4
    replace g5 : (VarP 17 (Is (.agg x.cells.toArray))) W10 (a10.eval (.tmp 5)) := by rw [ho10 5 rfl]; exact (VarP.st (Is.st _)) _ _ _ hx10 g5
    replace g36 : (Is (.bool false)) W10 (a10.eval (.tmp 36)) := by rw [ho10 36 rfl]; exact (Is.st _) _ _ _ hx10 g36
    replace g54 : (Is (.bool true)) W10 (a10.eval (.tmp 54)) := by rw [ho10 54 rfl]; exact (Is.st _) _ _ _ hx10 g54
    replace hW : Ext w W10 := hW.trans hx10
    replace hd10 : a10.defers = [] := hd10.trans hd9
    clear hx10 ho10
    refine wp_ret ?_
    show bodyPost Try.prog Try.f6 (fun en w1 => en = .returned (.bool true) ∧ Ext w w1) .ret _ _
    exact ret_is Try.results6 hd10 g6 ⟨rfl, hW⟩
  rw [Bool.not_eq_false] at hc3
  refine wp_seq (lc3e x hok e1 e2  hc0 hc1 hc2 hc3 _ _ _ hs2 g3 g4 fun a11 W11 hx11 ho11 hs11 hd11 g54 => ?_)
  refine then_normal ?_
  replace g3 : (VarP 7 (ExA e1)) W11 (a11.eval (.tmp 3)) := by rw [ho11 3 rfl]; exact (VarP.st ExA.st) _ _ _ hx11 g3
  replace g4 : (VarP 7 (ExA e2)) W11 (a11.eval (.tmp 4)) := by rw [ho11 4 rfl]; exact (VarP.st ExA.st) _ _ _ hx11 g4
  replace g5 : (VarP 17 (Is (.agg x.cells.toArray))) W11 (a11.eval (.tmp 5)) := by rw [ho11 5 rfl]; exact (VarP.st (Is.st _)) _ _ _ hx11 g5
  replace hW : Ext w W11 := hW.trans hx11
  replace hd11 : a11.defers = [] := hd11.trans hd2
  clear hx11 ho11
  refine cond_f g54 ?_
  refine wp_skip ?_
  refine then_normal ?_
  refine wp_seq (lc5 x hok e1 e2   _ _ _ hs11 g3 g5 fun a12 W12 hx12 ho12 hs12 hd12 g7 g8 => ?_)
  refine then_normal ?_
  replace g3 : (VarP 7 (ExA e1)) W12 (a12.eval (.tmp 3)) := by rw [ho12 3 rfl]; exact (VarP.st ExA.st) _ _ _ hx12 g3
  replace g4 : (VarP 7 (ExA e2)) W12 (a12.eval (.tmp 4)) := by rw [ho12 4 rfl]; exact (VarP.st ExA.st) _ _ _ hx12 g4
  replace g5 : (VarP 17 (Is (.agg x.cells.toArray))) W12 (a12.eval (.tmp 5)) := by rw [ho12 5 rfl]; exact (VarP.st (Is.st _)) _ _ _ hx12 g5
  replace hW : Ext w W12 := hW.trans hx12
  replace hd12 : a12.defers = [] := hd12.trans hd11
  clear hx12 ho12
  refine wp_seq (lc6 x hok e1 e2   _ _ _ hs12 g4 g5 fun a13 W13 hx13 ho13 hs13 hd13 g9 g10 => ?_)
  refine then_normal ?_
  replace g3 : (VarP 7 (ExA e1)) W13 (a13.eval (.tmp 3)) := by rw [ho13 3 rfl]; exact (VarP.st ExA.st) _ _ _ hx13 g3
  replace g4 : (VarP 7 (ExA e2)) W13 (a13.eval (.tmp 4)) := by rw [ho13 4 rfl]; exact (VarP.st ExA.st) _ _ _ hx13 g4
  replace g5 : (VarP 17 (Is (.agg x.cells.toArray))) W13 (a13.eval (.tmp 5)) := by rw [ho13 5 rfl]; exact (VarP.st (Is.st _)) _ _ _ hx13 g5
  replace g7 : (Is (.int .i64 ((EvalF e1 x).1))) W13 (a13.eval (.tmp 7)) := by rw [ho13 7 rfl]; exact (Is.st _) _ _ _ hx13 g7
  replace g8 : (Is (.int .i64 ((EvalF e1 x).2))) W13 (a13.eval (.tmp 8)) := by rw [ho13 8 rfl]; exact (Is.st _) _ _ _ hx13 g8
  replace hW : Ext w W13 := hW.trans hx13
  replace hd13 : a13.defers = [] := hd13.trans hd12
  clear hx13 ho13
  refine wp_seq ?_
  by_cases hne : (EvalF e1 x).2 = 0
  case neg =>
    have hS : EvalF (two 3 e1 e2) x = (0, (EvalF e1 x).2) := by rw [two_eval (by decide) (by decide) hc2 hc3, if_pos hne]
    refine wp_seq (lc7a x hok e1 e2  hne _ _ _ hs13 g8 fun a14 W14 hx14 ho14 hs14 hd14 g68 => ?_)
    refine then_normal ?_
    replace g3 : (VarP 7 (ExA e1)) W14 (a14.eval (.tmp 3)) := by rw [ho14 3 rfl]; exact (VarP.st ExA.st) _ _ _ hx14 g3
    replace g4 : (VarP 7 (ExA e2)) W14 (a14.eval (.tmp 4)) := by rw [ho14 4 rfl]; exact (VarP.st ExA.st) _ _ _ hx14 g4
    replace g5 : (VarP 17 (Is (.agg x.cells.toArray))) W14 (a14.eval (.tmp 5)) := by rw [ho14 5 rfl]; exact (VarP.st (Is.st _)) _ _ _ hx14 g5
    replace g7 : (Is (.int .i64 ((EvalF e1 x).1))) W14 (a14.eval (.tmp 7)) := by rw [ho14 7 rfl]; exact (Is.st _) _ _ _ hx14 g7
    replace g8 : (Is (.int .i64 ((EvalF e1 x).2))) W14 (a14.eval (.tmp 8)) := by rw [ho14 8 rfl]; exact (Is.st _) _ _ _ hx14 g8
    replace g9 : (Is (.int .i64 ((EvalF e2 x).1))) W14 (a14.eval (.tmp 9)) := by rw [ho14 9 rfl]; exact (Is.st _) _ _ _ hx14 g9
    replace g10 : (Is (.int .i64 ((EvalF e2 x).2))) W14 (a14.eval (.tmp 10)) := by rw [ho14 10 rfl]; exact (Is.st _) _ _ _ hx14 g10
    replace hW : Ext w W14 := hW.trans hx14
    replace hd14 : a14.defers = [] := hd14.trans hd13
    clear hx14 ho14
    refine cond_f g68 ?_
    refine wp_skip ?_
    refine then_normal ?_
    refine wp_seq ?_
    refine wp_seq (lc9a x hok e1 e2  hne _ _ _ hs14 g8 fun a15 W15 hx15 ho15 hs15 hd15 g71 => ?_)
    refine then_normal ?_
    replace g3 : (VarP 7 (ExA e1)) W15 (a15.eval (.tmp 3)) := by rw [ho15 3 rfl]; exact (VarP.st ExA.st) _ _ _ hx15 g3
    replace g4 : (VarP 7 (ExA e2)) W15 (a15.eval (.tmp 4)) := by rw [ho15 4 rfl]; exact (VarP.st ExA.st) _ _ _ hx15 g4
    replace g5 : (VarP 17 (Is (.agg x.cells.toArray))) W15 (a15.eval (.tmp 5)) := by rw [ho15 5 rfl]; exact (VarP.st (Is.st _)) _ _ _ hx15 g5
    replace g7 : (Is (.int .i64 ((EvalF e1 x).1))) W15 (a15.eval (.tmp 7)) := by rw [ho15 7 rfl]; exact (Is.st _) _ _ _ hx15 g7
    replace g8 : (Is (.int .i64 ((EvalF e1 x).2))) W15 (a15.eval (.tmp 8)) := by rw [ho15 8 rfl]; exact (Is.st _) _ _ _ hx15 g8
    replace g9 : (Is (.int .i64 ((EvalF e2 x).1))) W15 (a15.eval (.tmp 9)) := by rw [ho15 9 rfl]; exact (Is.st _) _ _ _ hx15 g9
    replace g10 : (Is (.int .i64 ((EvalF e2 x).2))) W15 (a15.eval (.tmp 10)) := by rw [ho15 10 rfl]; exact (Is.st _) _ _ _ hx15 g10
    replace g68 : (Is (.bool false)) W15 (a15.eval (.tmp 68)) := by rw [ho15 68 rfl]; exact (Is.st _) _ _ _ hx15 g68
    replace hW : Ext w W15 := hW.trans hx15
    replace hd15 : a15.defers = [] := hd15.trans hd14
    clear hx15 ho15
    refine cond_t g71 ?_
    refine wp_seq (lc10a x hok e1 e2   _ _ _ hs15 g3 g4 g5 fun a16 W16 hx16 ho16 hs16 hd16 g11 g12 => ?_)
    refine then_normal ?_
    replace g3 : (VarP 7 (ExA e1)) W16 (a16.eval (.tmp 3)) := by rw [ho16 3 rfl]; exact (VarP.st ExA.st) _ _ _ hx16 g3
    replace g4 : (VarP 7 (ExA e2)) W16 (a16.eval (.tmp 4)) := by rw [ho16 4 rfl]; exact (VarP.st ExA.st) _ _ _ hx16 g4
    replace g5 : (VarP 17 (Is (.agg x.cells.toArray))) W16 (a16.eval (.tmp 5)) := by rw [ho16 5 rfl]; exact (VarP.st (Is.st _)) _ _ _ hx16 g5
    replace g7 : (Is (.int .i64 ((EvalF e1 x).1))) W16 (a16.eval (.tmp 7)) := by rw [ho16 7 rfl]; exact (Is.st _) _ _ _ hx16 g7
    replace g8 : (Is (.int .i64 ((EvalF e1 x).2))) W16 (a16.eval (.tmp 8)) := by rw [ho16 8 rfl]; exact (Is.st _) _ _ _ hx16 g8
    replace g9 : (Is (.int .i64 ((EvalF e2 x).1))) W16 (a16.eval (.tmp 9)) := by rw [ho16 9 rfl]; exact (Is.st _) _ _ _ hx16 g9
    replace g10 : (Is (.int .i64 ((EvalF e2 x).2))) W16 (a16.eval (.tmp 10)) := by rw [ho16 10 rfl]; exact (Is.st _) _ _ _ hx16 g10
    replace g68 : (Is (.bool false)) W16 (a16.eval (.tmp 68)) := by rw [ho16 68 rfl]; exact (Is.st _) _ _ _ hx16 g68
    replace g71 : (Is (.bool true)) W16 (a16.eval (.tmp 71)) := by rw [ho16 71 rfl]; exact (Is.st _) _ _ _ hx16 g71
    replace hW : Ext w W16 := hW.trans hx16
    replace hd16 : a16.defers = [] := hd16.trans hd15
    clear hx16 ho16
    refine wp_seq (lc11a x hok e1 e2  hS _ _ _ hs16 g8 g11 g12 fun a17 W17 hx17 ho17 hs17 hd17 g6 => ?_)
    refine then_normal ?_
    replace g3 : (VarP 7 (ExA e1)) W17 (a17.eval (.tmp 3)) := by rw [ho17 3 rfl]; exact (VarP.st ExA.st) _ _ _ hx17 g3
    replace g4 : (VarP 7 (ExA e2)) W17 (a17.eval (.tmp 4)) := by rw [ho17 4 rfl]; exact (VarP.st ExA.st) _ _ _ hx17 g4
    replace g5 : (VarP 17 (Is (.agg x.cells.toArray))) W17 (a17.eval (.tmp 5)) := by rw [ho17 5 rfl]; exact (VarP.st (Is.st _)) _ _ _ hx17 g5
    replace g7 : (Is (.int .i64 ((EvalF e1 x).1))) W17 (a17.eval (.tmp 7)) := by rw [ho17 7 rfl]; exact (Is.st _) _ _ _ hx17 g7
    replace g8 : (Is (.int .i64 ((EvalF e1 x).2))) W17 (a17.eval (.tmp 8)) := by rw [ho17 8 rfl]; exact (Is.st _) _ _ _ hx17 g8
    replace g9 : (Is (.int .i64 ((EvalF e2 x).1))) W17 (a17.eval (.tmp 9)) := by rw [ho17 9 rfl]; exact (Is.st _) _ _ _ hx17 g9
    replace g10 : (Is (.int .i64 ((EvalF e2 x).2))) W17 (a17.eval (.tmp 10)) := by rw [ho17 10 rfl]; exact (Is.st _) _ _ _ hx17 g10
    replace g11 : (Is (.int .i64 ((EvalF (two 3 e1 e2) x).1))) W17 (a17.eval (.tmp 11)) := by rw [ho17 11 rfl]; exact (Is.st _) _ _ _ hx17 g11
    replace g12 : (Is (.int .i64 ((EvalF (two 3 e1 e2) x).2))) W17 (a17.eval (.tmp 12)) := by rw [ho17 12 rfl]; exact (Is.st _) _ _ _ hx17 g12
    replace g68 : (Is (.bool false)) W17 (a17.eval (.tmp 68)) := by rw [ho17 68 rfl]; exact (Is.st _) _ _ _ hx17 g68
    replace g71 : (Is (.bool true)) W17 (a17.eval (.tmp 71)) := by rw [ho17 71 rfl]; exact (Is.st _) _ _ _ hx17 g71
    replace hW : Ext w W17 := hW.trans hx17
    replace hd17 : a17.defers = [] := hd17.trans hd16
    clear hx17 ho17
    refine wp_ret ?_
    show bodyPost Try.prog Try.f6 (fun en w1 => en = .returned (.bool true) ∧ Ext w w1) .ret _ _
    exact ret_is Try.results6 hd17 g6 ⟨rfl, hW⟩
  have hA0 : (EvalF e1 x).2 = 0 := hne
  clear hne
  refine wp_seq (lc7b x hok e1 e2  hA0 _ _ _ hs13 g8 fun a18 W18 hx18 ho18 hs18 hd18 g68 => ?_)
  refine then_normal ?_
  replace g3 : (VarP 7 (ExA e1)) W18 (a18.eval (.tmp 3)) := by rw [ho18 3 rfl]; exact (VarP.st ExA.st) _ _ _ hx18 g3
  replace g4 : (VarP 7 (ExA e2)) W18 (a18.eval (.tmp 4)) := by rw [ho18 4 rfl]; exact (VarP.st ExA.st) _ _ _ hx18 g4
  replace g5 : (VarP 17 (Is (.agg x.cells.toArray))) W18 (a18.eval (.tmp 5)) := by rw [ho18 5 rfl]; exact (VarP.st (Is.st _)) _ _ _ hx18 g5
  replace g7 : (Is (.int .i64 ((EvalF e1 x).1))) W18 (a18.eval (.tmp 7)) := by rw [ho18 7 rfl]; exact (Is.st _) _ _ _ hx18 g7
  replace g8 : (Is (.int .i64 ((EvalF e1 x).2))) W18 (a18.eval (.tmp 8)) := by rw [ho18 8 rfl]; exact (Is.st _) _ _ _ hx18 g8
  replace g9 : (Is (.int .i64 ((EvalF e2 x).1))) W18 (a18.eval (.tmp 9)) := by rw [ho18 9 rfl]; exact (Is.st _) _ _ _ hx18 g9
  replace g10 : (Is (.int .i64 ((EvalF e2 x).2))) W18 (a18.eval (.tmp 10)) := by rw [ho18 10 rfl]; exact (Is.st _) _ _ _ hx18 g10
  replace hW : Ext w W18 := hW.trans hx18
  replace hd18 : a18.defers = [] := hd18.trans hd13
  clear hx18 ho18
  refine cond_t g68 ?_
  refine (lc8 x hok e1 e2   _ _ _ hs18 g10 fun a19 W19 hx19 ho19 hs19 hd19 g8 => ?_)
  replace g3 : (VarP 7 (ExA e1)) W19 (a19.eval (.tmp 3)) := by rw [ho19 3 rfl]; exact (VarP.st ExA.st) _ _ _ hx19 g3
  replace g4 : (VarP 7 (ExA e2)) W19 (a19.eval (.tmp 4)) := by rw [ho19 4 rfl]; exact (VarP.st ExA.st) _ _ _ hx19 g4
  replace g5 : (VarP 17 (Is (.agg x.cells.toArray))) W19 (a19.eval (.tmp 5)) := by rw [ho19 5 rfl]; exact (VarP.st (Is.st _)) _ _ _ hx19 g5
  replace g7 : (Is (.int .i64 ((EvalF e1 x).1))) W19 (a19.eval (.tmp 7)) := by rw [ho19 7 rfl]; exact (Is.st _) _ _ _ hx19 g7
  replace g9 : (Is (.int .i64 ((EvalF e2 x).1))) W19 (a19.eval (.tmp 9)) := by rw [ho19 9 rfl]; exact (Is.st _) _ _ _ hx19 g9
  replace hW : Ext w W19 := hW.trans hx19
  replace hd19 : a19.defers = [] := hd19.trans hd18
  clear hx19 ho19
  refine then_normal ?_
  by_cases hne : (EvalF e2 x).2 = 0
  case neg =>
    have hS : EvalF (two 3 e1 e2) x = (0, (EvalF e2 x).2) := by rw [two_eval (by decide) (by decide) hc2 hc3, if_neg (by simpa using hA0), if_pos hne]
    refine wp_seq ?_
    refine wp_seq (lc9b x hok e1 e2  hne _ _ _ hs19 g8 fun a20 W20 hx20 ho20 hs20 hd20 g71 => ?_)
    refine then_normal ?_
    replace g3 : (VarP 7 (ExA e1)) W20 (a20.eval (.tmp 3)) := by rw [ho20 3 rfl]; exact (VarP.st ExA.st) _ _ _ hx20 g3
    replace g4 : (VarP 7 (ExA e2)) W20 (a20.eval (.tmp 4)) := by rw [ho20 4 rfl]; exact (VarP.st ExA.st) _ _ _ hx20 g4
    replace g5 : (VarP 17 (Is (.agg x.cells.toArray))) W20 (a20.eval (.tmp 5)) := by rw [ho20 5 rfl]; exact (VarP.st (Is.st _)) _ _ _ hx20 g5
    replace g7 : (Is (.int .i64 ((EvalF e1 x).1))) W20 (a20.eval (.tmp 7)) := by rw [ho20 7 rfl]; exact (Is.st _) _ _ _ hx20 g7
    replace g8 : (Is (.int .i64 ((EvalF e2 x).2))) W20 (a20.eval (.tmp 8)) := by rw [ho20 8 rfl]; exact (Is.st _) _ _ _ hx20 g8
    replace g9 : (Is (.int .i64 ((EvalF e2 x).1))) W20 (a20.eval (.tmp 9)) := by rw [ho20 9 rfl]; exact (Is.st _) _ _ _ hx20 g9
    replace hW : Ext w W20 := hW.trans hx20
    replace hd20 : a20.defers = [] := hd20.trans hd19
    clear hx20 ho20
    refine cond_t g71 ?_
    refine wp_seq (lc10b x hok e1 e2   _ _ _ hs20 g3 g4 g5 fun a21 W21 hx21 ho21 hs21 hd21 g11 g12 => ?_)
    refine then_normal ?_
    replace g3 : (VarP 7 (ExA e1)) W21 (a21.eval (.tmp 3)) := by rw [ho21 3 rfl]; exact (VarP.st ExA.st) _ _ _ hx21 g3
    replace g4 : (VarP 7 (ExA e2)) W21 (a21.eval (.tmp 4)) := by rw [ho21 4 rfl]; exact (VarP.st ExA.st) _ _ _ hx21 g4
    replace g5 : (VarP 17 (Is (.agg x.cells.toArray))) W21 (a21.eval (.tmp 5)) := by rw [ho21 5 rfl]; exact (VarP.st (Is.st _)) _ _ _ hx21 g5
    replace g7 : (Is (.int .i64 ((EvalF e1 x).1))) W21 (a21.eval (.tmp 7)) := by rw [ho21 7 rfl]; exact (Is.st _) _ _ _ hx21 g7
    replace g8 : (Is (.int .i64 ((EvalF e2 x).2))) W21 (a21.eval (.tmp 8)) := by rw [ho21 8 rfl]; exact (Is.st _) _ _ _ hx21 g8
    replace g9 : (Is (.int .i64 ((EvalF e2 x).1))) W21 (a21.eval (.tmp 9)) := by rw [ho21 9 rfl]; exact (Is.st _) _ _ _ hx21 g9
    replace g71 : (Is (.bool true)) W21 (a21.eval (.tmp 71)) := by rw [ho21 71 rfl]; exact (Is.st _) _ _ _ hx21 g71
    replace hW : Ext w W21 := hW.trans hx21
    replace hd21 : a21.defers = [] := hd21.trans hd20
    clear hx21 ho21
    refine wp_seq (lc11b x hok e1 e2  hS _ _ _ hs21 g8 g11 g12 fun a22 W22 hx22 ho22 hs22 hd22 g6 => ?_)
    refine then_normal ?_
    replace g3 : (VarP 7 (ExA e1)) W22 (a22.eval (.tmp 3)) := by rw [ho22 3 rfl]; exact (VarP.st ExA.st) _ _ _ hx22 g3
    replace g4 : (VarP 7 (ExA e2)) W22 (a22.eval (.tmp 4)) := by rw [ho22 4 rfl]; exact (VarP.st ExA.st) _ _ _ hx22 g4
    replace g5 : (VarP 17 (Is (.agg x.cells.toArray))) W22 (a22.eval (.tmp 5)) := by rw [ho22 5 rfl]; exact (VarP.st (Is.st _)) _ _ _ hx22 g5
    replace g7 : (Is (.int .i64 ((EvalF e1 x).1))) W22 (a22.eval (.tmp 7)) := by rw [ho22 7 rfl]; exact (Is.st _) _ _ _ hx22 g7
    replace g8 : (Is (.int .i64 ((EvalF e2 x).2))) W22 (a22.eval (.tmp 8)) := by rw [ho22 8 rfl]; exact (Is.st _) _ _ _ hx22 g8
    replace g9 : (Is (.int .i64 ((EvalF e2 x).1))) W22 (a22.eval (.tmp 9)) := by rw [ho22 9 rfl]; exact (Is.st _) _ _ _ hx22 g9
    replace g11 : (Is (.int .i64 ((EvalF (two 3 e1 e2) x).1))) W22 (a22.eval (.tmp 11)) := by rw [ho22 11 rfl]; exact (Is.st _) _ _ _ hx22 g11
    replace g12 : (Is (.int .i64 ((EvalF (two 3 e1 e2) x).2))) W22 (a22.eval (.tmp 12)) := by rw [ho22 12 rfl]; exact (Is.st _) _ _ _ hx22 g12
    replace g71 : (Is (.bool true)) W22 (a22.eval (.tmp 71)) := by rw [ho22 71 rfl]; exact (Is.st _) _ _ _ hx22 g71
    replace hW : Ext w W22 := hW.trans hx22
    replace hd22 : a22.defers = [] := hd22.trans hd21
    clear hx22 ho22
    refine wp_ret ?_
    show bodyPost Try.prog Try.f6 (fun en w1 => en = .returned (.bool true) ∧ Ext w w1) .ret _ _
    exact ret_is Try.results6 hd22 g6 ⟨rfl, hW⟩
  have hB0 : (EvalF e2 x).2 = 0 := hne
  clear hne
  have hap : ∀ op : Int, 3 ≤ op → op ≤ 10 → EvalF (two op e1 e2) x = applyF op (EvalF e1 x).1 (EvalF e2 x).1 := fun op h3 h10 => by rw [two_eval h3 h10 hc2 hc3, if_neg (by simpa using hA0), if_neg (by simpa using hB0)]
  have hia := EvalF_in hc2 hA0
  have hib := EvalF_in hc3 hB0
  rw [inR_iff] at hia hib
  refine wp_seq ?_
  refine wp_seq (lc9c x hok e1 e2  hB0 _ _ _ hs19 g8 fun a23 W23 hx23 ho23 hs23 hd23 g71 => ?_)
  refine then_normal ?_
  replace g3 : (VarP 7 (ExA e1)) W23 (a23.eval (.tmp 3)) := by rw [ho23 3 rfl]; exact (VarP.st ExA.st) _ _ _ hx23 g3
  replace g4 : (VarP 7 (ExA e2)) W23 (a23.eval (.tmp 4)) := by rw [ho23 4 rfl]; exact (VarP.st ExA.st) _ _ _ hx23 g4
  replace g5 : (VarP 17 (Is (.agg x.cells.toArray))) W23 (a23.eval (.tmp 5)) := by rw [ho23 5 rfl]; exact (VarP.st (Is.st _)) _ _ _ hx23 g5
  replace g7 : (Is (.int .i64 ((EvalF e1 x).1))) W23 (a23.eval (.tmp 7)) := by rw [ho23 7 rfl]; exact (Is.st _) _ _ _ hx23 g7
  replace g9 : (Is (.int .i64 ((EvalF e2 x).1))) W23 (a23.eval (.tmp 9)) := by rw [ho23 9 rfl]; exact (Is.st _) _ _ _ hx23 g9
  replace hW : Ext w W23 := hW.trans hx23
  replace hd23 : a23.defers = [] := hd23.trans hd19
  clear hx23 ho23
  refine cond_f g71 ?_
  refine wp_skip ?_
  refine then_normal ?_
  refine wp_seq (lc12 x hok e1 e2   _ _ _ hs23 g3 g4 g5 fun a24 W24 hx24 ho24 hs24 hd24 g13 g14 => ?_)
  refine then_normal ?_
  replace g3 : (VarP 7 (ExA e1)) W24 (a24.eval (.tmp 3)) := by rw [ho24 3 rfl]; exact (VarP.st ExA.st) _ _ _ hx24 g3
  replace g4 : (VarP 7 (ExA e2)) W24 (a24.eval (.tmp 4)) := by rw [ho24 4 rfl]; exact (VarP.st ExA.st) _ _ _ hx24 g4
  replace g5 : (VarP 17 (Is (.agg x.cells.toArray))) W24 (a24.eval (.tmp 5)) := by rw [ho24 5 rfl]; exact (VarP.st (Is.st _)) _ _ _ hx24 g5
  replace g7 : (Is (.int .i64 ((EvalF e1 x).1))) W24 (a24.eval (.tmp 7)) := by rw [ho24 7 rfl]; exact (Is.st _) _ _ _ hx24 g7
  replace g9 : (Is (.int .i64 ((EvalF e2 x).1))) W24 (a24.eval (.tmp 9)) := by rw [ho24 9 rfl]; exact (Is.st _) _ _ _ hx24 g9
  replace hW : Ext w W24 := hW.trans hx24
  replace hd24 : a24.defers = [] := hd24.trans hd23
  clear hx24 ho24
  refine wp_seq (lc13 x hok e1 e2   _ _ _ hs24 g7 g9 fun a25 W25 hx25 ho25 hs25 hd25 g15 g16 => ?_)
  refine then_normal ?_
  replace g3 : (VarP 7 (ExA e1)) W25 (a25.eval (.tmp 3)) := by rw [ho25 3 rfl]; exact (VarP.st ExA.st) _ _ _ hx25 g3
  replace g4 : (VarP 7 (ExA e2)) W25 (a25.eval (.tmp 4)) := by rw [ho25 4 rfl]; exact (VarP.st ExA.st) _ _ _ hx25 g4
  replace g5 : (VarP 17 (Is (.agg x.cells.toArray))) W25 (a25.eval (.tmp 5)) := by rw [ho25 5 rfl]; exact (VarP.st (Is.st _)) _ _ _ hx25 g5
  replace g7 : (Is (.int .i64 ((EvalF e1 x).1))) W25 (a25.eval (.tmp 7)) := by rw [ho25 7 rfl]; exact (Is.st _) _ _ _ hx25 g7
  replace g9 : (Is (.int .i64 ((EvalF e2 x).1))) W25 (a25.eval (.tmp 9)) := by rw [ho25 9 rfl]; exact (Is.st _) _ _ _ hx25 g9
  replace g13 : (Is (.int .i64 ((EvalF (two 3 e1 e2) x).1))) W25 (a25.eval (.tmp 13)) := by rw [ho25 13 rfl]; exact (Is.st _) _ _ _ hx25 g13
  replace g14 : (Is (.int .i64 ((EvalF (two 3 e1 e2) x).2))) W25 (a25.eval (.tmp 14)) := by rw [ho25 14 rfl]; exact (Is.st _) _ _ _ hx25 g14
  replace hW : Ext w W25 := hW.trans hx25
  replace hd25 : a25.defers = [] := hd25.trans hd24
  clear hx25 ho25
  refine wp_seq (lc14 x hok e1 e2   _ _ _ hs25 g3 g4 g5 fun a26 W26 hx26 ho26 hs26 hd26 g17 g18 => ?_)
  refine then_normal ?_
  replace g3 : (VarP 7 (ExA e1)) W26 (a26.eval (.tmp 3)) := by rw [ho26 3 rfl]; exact (VarP.st ExA.st) _ _ _ hx26 g3
  replace g4 : (VarP 7 (ExA e2)) W26 (a26.eval (.tmp 4)) := by rw [ho26 4 rfl]; exact (VarP.st ExA.st) _ _ _ hx26 g4
  replace g5 : (VarP 17 (Is (.agg x.cells.toArray))) W26 (a26.eval (.tmp 5)) := by rw [ho26 5 rfl]; exact (VarP.st (Is.st _)) _ _ _ hx26 g5
  replace g7 : (Is (.int .i64 ((EvalF e1 x).1))) W26 (a26.eval (.tmp 7)) := by rw [ho26 7 rfl]; exact (Is.st _) _ _ _ hx26 g7
  replace g9 : (Is (.int .i64 ((EvalF e2 x).1))) W26 (a26.eval (.tmp 9)) := by rw [ho26 9 rfl]; exact (Is.st _) _ _ _ hx26 g9
  replace g13 : (Is (.int .i64 ((EvalF (two 3 e1 e2) x).1))) W26 (a26.eval (.tmp 13)) := by rw [ho26 13 rfl]; exact (Is.st _) _ _ _ hx26 g13
  replace g14 : (Is (.int .i64 ((EvalF (two 3 e1 e2) x).2))) W26 (a26.eval (.tmp 14)) := by rw [ho26 14 rfl]; exact (Is.st _) _ _ _ hx26 g14
  replace g15 : (Is (.int .i64 ((addF (EvalF e1 x).1 (EvalF e2 x).1).1))) W26 (a26.eval (.tmp 15)) := by rw [ho26 15 rfl]; exact (Is.st _) _ _ _ hx26 g15
  replace g16 : (Is (.int .i64 ((addF (EvalF e1 x).1 (EvalF e2 x).1).2))) W26 (a26.eval (.tmp 16)) := by rw [ho26 16 rfl]; exact (Is.st _) _ _ _ hx26 g16
  replace hW : Ext w W26 := hW.trans hx26
  replace hd26 : a26.defers = [] := hd26.trans hd25
  clear hx26 ho26
  refine wp_seq (lc15 x hok e1 e2   _ _ _ hs26 g7 g9 fun a27 W27 hx27 ho27 hs27 hd27 g19 g20 => ?_)
  refine then_normal ?_
  replace g3 : (VarP 7 (ExA e1)) W27 (a27.eval (.tmp 3)) := by rw [ho27 3 rfl]; exact (VarP.st ExA.st) _ _ _ hx27 g3
  replace g4 : (VarP 7 (ExA e2)) W27 (a27.eval (.tmp 4)) := by rw [ho27 4 rfl]; exact (VarP.st ExA.st) _ _ _ hx27 g4
  replace g5 : (VarP 17 (Is (.agg x.cells.toArray))) W27 (a27.eval (.tmp 5)) := by rw [ho27 5 rfl]; exact (VarP.st (Is.st _)) _ _ _ hx27 g5
  replace g7 : (Is (.int .i64 ((EvalF e1 x).1))) W27 (a27.eval (.tmp 7)) := by rw [ho27 7 rfl]; exact (Is.st _) _ _ _ hx27 g7
  replace g9 : (Is (.int .i64 ((EvalF e2 x).1))) W27 (a27.eval (.tmp 9)) := by rw [ho27 9 rfl]; exact (Is.st _) _ _ _ hx27 g9
  replace g13 : (Is (.int .i64 ((EvalF (two 3 e1 e2) x).1))) W27 (a27.eval (.tmp 13)) := by rw [ho27 13 rfl]; exact (Is.st _) _ _ _ hx27 g13
  replace g14 : (Is (.int .i64 ((EvalF (two 3 e1 e2) x).2))) W27 (a27.eval (.tmp 14)) := by rw [ho27 14 rfl]; exact (Is.st _) _ _ _ hx27 g14
  replace g15 : (Is (.int .i64 ((addF (EvalF e1 x).1 (EvalF e2 x).1).1))) W27 (a27.eval (.tmp 15)) := by rw [ho27 15 rfl]; exact (Is.st _) _ _ _ hx27 g15
  replace g16 : (Is (.int .i64 ((addF (EvalF e1 x).1 (EvalF e2 x).1).2))) W27 (a27.eval (.tmp 16)) := by rw [ho27 16 rfl]; exact (Is.st _) _ _ _ hx27 g16
  replace g17 : (Is (.int .i64 ((EvalF (two 5 e1 e2) x).1))) W27 (a27.eval (.tmp 17)) := by rw [ho27 17 rfl]; exact (Is.st _) _ _ _ hx27 g17
  replace g18 : (Is (.int .i64 ((EvalF (two 5 e1 e2) x).2))) W27 (a27.eval (.tmp 18)) := by rw [ho27 18 rfl]; exact (Is.st _) _ _ _ hx27 g18
  replace hW : Ext w W27 := hW.trans hx27
  replace hd27 : a27.defers = [] := hd27.trans hd26
  clear hx27 ho27
  refine wp_seq (lc16 x hok e1 e2   _ _ _ hs27 g3 g4 g5 fun a28 W28 hx28 ho28 hs28 hd28 g21 g22 => ?_)
  refine then_normal ?_
  replace g3 : (VarP 7 (ExA e1)) W28 (a28.eval (.tmp 3)) := by rw [ho28 3 rfl]; exact (VarP.st ExA.st) _ _ _ hx28 g3
  replace g4 : (VarP 7 (ExA e2)) W28 (a28.eval (.tmp 4)) := by rw [ho28 4 rfl]; exact (VarP.st ExA.st) _ _ _ hx28 g4
  replace g5 : (VarP 17 (Is (.agg x.cells.toArray))) W28 (a28.eval (.tmp 5)) := by rw [ho28 5 rfl]; exact (VarP.st (Is.st _)) _ _ _ hx28 g5
  replace g7 : (Is (.int .i64 ((EvalF e1 x).1))) W28 (a28.eval (.tmp 7)) := by rw [ho28 7 rfl]; exact (Is.st _) _ _ _ hx28 g7
  replace g9 : (Is (.int .i64 ((EvalF e2 x).1))) W28 (a28.eval (.tmp 9)) := by rw [ho28 9 rfl]; exact (Is.st _) _ _ _ hx28 g9
  replace g13 : (Is (.int .i64 ((EvalF (two 3 e1 e2) x).1))) W28 (a28.eval (.tmp 13)) := by rw [ho28 13 rfl]; exact (Is.st _) _ _ _ hx28 g13
  replace g14 : (Is (.int .i64 ((EvalF (two 3 e1 e2) x).2))) W28 (a28.eval (.tmp 14)) := by rw [ho28 14 rfl]; exact (Is.st _) _ _ _ hx28 g14
  replace g15 : (Is (.int .i64 ((addF (EvalF e1 x).1 (EvalF e2 x).1).1))) W28 (a28.eval (.tmp 15)) := by rw [ho28 15 rfl]; exact (Is.st _) _ _ _ hx28 g15
  replace g16 : (Is (.int .i64 ((addF (EvalF e1 x).1 (EvalF e2 x).1).2))) W28 (a28.eval (.tmp 16)) := by rw [ho28 16 rfl]; exact (Is.st _) _ _ _ hx28 g16
  replace g17 : (Is (.int .i64 ((EvalF (two 5 e1 e2) x).1))) W28 (a28.eval (.tmp 17)) := by rw [ho28 17 rfl]; exact (Is.st _) _ _ _ hx28 g17
  replace g18 : (Is (.int .i64 ((EvalF (two 5 e1 e2) x).2))) W28 (a28.eval (.tmp 18)) := by rw [ho28 18 rfl]; exact (Is.st _) _ _ _ hx28 g18
  replace g19 : (Is (.int .i64 ((mulF (EvalF e1 x).1 (EvalF e2 x).1).1))) W28 (a28.eval (.tmp 19)) := by rw [ho28 19 rfl]; exact (Is.st _) _ _ _ hx28 g19
  replace g20 : (Is (.int .i64 ((mulF (EvalF e1 x).1 (EvalF e2 x).1).2))) W28 (a28.eval (.tmp 20)) := by rw [ho28 20 rfl]; exact (Is.st _) _ _ _ hx28 g20
  replace hW : Ext w W28 := hW.trans hx28
  replace hd28 : a28.defers = [] := hd28.trans hd27
  clear hx28 ho28
  refine wp_seq (lc17 x hok e1 e2   _ _ _ hs28 g7 g9 fun a29 W29 hx29 ho29 hs29 hd29 g23 g24 => ?_)
  refine then_normal ?_
  replace g3 : (VarP 7 (ExA e1)) W29 (a29.eval (.tmp 3)) := by rw [ho29 3 rfl]; exact (VarP.st ExA.st) _ _ _ hx29 g3
  replace g4 : (VarP 7 (ExA e2)) W29 (a29.eval (.tmp 4)) := by rw [ho29 4 rfl]; exact (VarP.st ExA.st) _ _ _ hx29 g4
  replace g5 : (VarP 17 (Is (.agg x.cells.toArray))) W29 (a29.eval (.tmp 5)) := by rw [ho29 5 rfl]; exact (VarP.st (Is.st _)) _ _ _ hx29 g5
  replace g7 : (Is (.int .i64 ((EvalF e1 x).1))) W29 (a29.eval (.tmp 7)) := by rw [ho29 7 rfl]; exact (Is.st _) _ _ _ hx29 g7
  replace g9 : (Is (.int .i64 ((EvalF e2 x).1))) W29 (a29.eval (.tmp 9)) := by rw [ho29 9 rfl]; exact (Is.st _) _ _ _ hx29 g9
  replace g13 : (Is (.int .i64 ((EvalF (two 3 e1 e2) x).1))) W29 (a29.eval (.tmp 13)) := by rw [ho29 13 rfl]; exact (Is.st _) _ _ _ hx29 g13
  replace g14 : (Is (.int .i64 ((EvalF (two 3 e1 e2) x).2))) W29 (a29.eval (.tmp 14)) := by rw [ho29 14 rfl]; exact (Is.st _) _ _ _ hx29 g14
  replace g15 : (Is (.int .i64 ((addF (EvalF e1 x).1 (EvalF e2 x).1).1))) W29 (a29.eval (.tmp 15)) := by rw [ho29 15 rfl]; exact (Is.st _) _ _ _ hx29 g15
  replace g16 : (Is (.int .i64 ((addF (EvalF e1 x).1 (EvalF e2 x).1).2))) W29 (a29.eval (.tmp 16)) := by rw [ho29 16 rfl]; exact (Is.st _) _ _ _ hx29 g16
  replace g17 : (Is (.int .i64 ((EvalF (two 5 e1 e2) x).1))) W29 (a29.eval (.tmp 17)) := by rw [ho29 17 rfl]; exact (Is.st _) _ _ _ hx29 g17
  replace g18 : (Is (.int .i64 ((EvalF (two 5 e1 e2) x).2))) W29 (a29.eval (.tmp 18)) := by rw [ho29 18 rfl]; exact (Is.st _) _ _ _ hx29 g18
  replace g19 : (Is (.int .i64 ((mulF (EvalF e1 x).1 (EvalF e2 x).1).1))) W29 (a29.eval (.tmp 19)) := by rw [ho29 19 rfl]; exact (Is.st _) _ _ _ hx29 g19
  replace g20 : (Is (.int .i64 ((mulF (EvalF e1 x).1 (EvalF e2 x).1).2))) W29 (a29.eval (.tmp 20)) := by rw [ho29 20 rfl]; exact (Is.st _) _ _ _ hx29 g20
  replace g21 : (Is (.int .i64 ((EvalF (two 4 e1 e2) x).1))) W29 (a29.eval (.tmp 21)) := by rw [ho29 21 rfl]; exact (Is.st _) _ _ _ hx29 g21
  replace g22 : (Is (.int .i64 ((EvalF (two 4 e1 e2) x).2))) W29 (a29.eval (.tmp 22)) := by rw [ho29 22 rfl]; exact (Is.st _) _ _ _ hx29 g22
  replace hW : Ext w W29 := hW.trans hx29
  replace hd29 : a29.defers = [] := hd29.trans hd28
  clear hx29 ho29
  refine wp_seq (lc18 x hok e1 e2   _ _ _ hs29 g3 g4 g5 fun a30 W30 hx30 ho30 hs30 hd30 g25 g26 => ?_)
  refine then_normal ?_
  replace g3 : (VarP 7 (ExA e1)) W30 (a30.eval (.tmp 3)) := by rw [ho30 3 rfl]; exact (VarP.st ExA.st) _ _ _ hx30 g3
  replace g4 : (VarP 7 (ExA e2)) W30 (a30.eval (.tmp 4)) := by rw [ho30 4 rfl]; exact (VarP.st ExA.st) _ _ _ hx30 g4
  replace g5 : (VarP 17 (Is (.agg x.cells.toArray))) W30 (a30.eval (.tmp 5)) := by rw [ho30 5 rfl]; exact (VarP.st (Is.st _)) _ _ _ hx30 g5
  replace g7 : (Is (.int .i64 ((EvalF e1 x).1))) W30 (a30.eval (.tmp 7)) := by rw [ho30 7 rfl]; exact (Is.st _) _ _ _ hx30 g7
  replace g9 : (Is (.int .i64 ((EvalF e2 x).1))) W30 (a30.eval (.tmp 9)) := by rw [ho30 9 rfl]; exact (Is.st _) _ _ _ hx30 g9
  replace g13 : (Is (.int .i64 ((EvalF (two 3 e1 e2) x).1))) W30 (a30.eval (.tmp 13)) := by rw [ho30 13 rfl]; exact (Is.st _) _ _ _ hx30 g13
  replace g14 : (Is (.int .i64 ((EvalF (two 3 e1 e2) x).2))) W30 (a30.eval (.tmp 14)) := by rw [ho30 14 rfl]; exact (Is.st _) _ _ _ hx30 g14
  replace g15 : (Is (.int .i64 ((addF (EvalF e1 x).1 (EvalF e2 x).1).1))) W30 (a30.eval (.tmp 15)) := by rw [ho30 15 rfl]; exact (Is.st _) _ _ _ hx30 g15
  replace g16 : (Is (.int .i64 ((addF (EvalF e1 x).1 (EvalF e2 x).1).2))) W30 (a30.eval (.tmp 16)) := by rw [ho30 16 rfl]; exact (Is.st _) _ _ _ hx30 g16
  replace g17 : (Is (.int .i64 ((EvalF (two 5 e1 e2) x).1))) W30 (a30.eval (.tmp 17)) := by rw [ho30 17 rfl]; exact (Is.st _) _ _ _ hx30 g17
  replace g18 : (Is (.int .i64 ((EvalF (two 5 e1 e2) x).2))) W30 (a30.eval (.tmp 18)) := by rw [ho30 18 rfl]; exact (Is.st _) _ _ _ hx30 g18
  replace g19 : (Is (.int .i64 ((mulF (EvalF e1 x).1 (EvalF e2 x).1).1))) W30 (a30.eval (.tmp 19)) := by rw [ho30 19 rfl]; exact (Is.st _) _ _ _ hx30 g19
  replace g20 : (Is (.int .i64 ((mulF (EvalF e1 x).1 (EvalF e2 x).1).2))) W30 (a30.eval (.tmp 20)) := by rw [ho30 20 rfl]; exact (Is.st _) _ _ _ hx30 g20
  replace g21 : (Is (.int .i64 ((EvalF (two 4 e1 e2) x).1))) W30 (a30.eval (.tmp 21)) := by rw [ho30 21 rfl]; exact (Is.st _) _ _ _ hx30 g21
  replace g22 : (Is (.int .i64 ((EvalF (two 4 e1 e2) x).2))) W30 (a30.eval (.tmp 22)) := by rw [ho30 22 rfl]; exact (Is.st _) _ _ _ hx30 g22
  replace g23 : (Is (.int .i64 ((subF (EvalF e1 x).1 (EvalF e2 x).1).1))) W30 (a30.eval (.tmp 23)) := by rw [ho30 23 rfl]; exact (Is.st _) _ _ _ hx30 g23
  replace g24 : (Is (.int .i64 ((subF (EvalF e1 x).1 (EvalF e2 x).1).2))) W30 (a30.eval (.tmp 24)) := by rw [ho30 24 rfl]; exact (Is.st _) _ _ _ hx30 g24
  replace hW : Ext w W30 := hW.trans hx30
  replace hd30 : a30.defers = [] := hd30.trans hd29
  clear hx30 ho30
  refine wp_seq (lc19 x hok e1 e2   _ _ _ hs30 g3 g4 g5 fun a31 W31 hx31 ho31 hs31 hd31 g27 g28 => ?_)
  refine then_normal ?_
  replace g3 : (VarP 7 (ExA e1)) W31 (a31.eval (.tmp 3)) := by rw [ho31 3 rfl]; exact (VarP.st ExA.st) _ _ _ hx31 g3
  replace g4 : (VarP 7 (ExA e2)) W31 (a31.eval (.tmp 4)) := by rw [ho31 4 rfl]; exact (VarP.st ExA.st) _ _ _ hx31 g4
  replace g5 : (VarP 17 (Is (.agg x.cells.toArray))) W31 (a31.eval (.tmp 5)) := by rw [ho31 5 rfl]; exact (VarP.st (Is.st _)) _ _ _ hx31 g5
  replace g7 : (Is (.int .i64 ((EvalF e1 x).1))) W31 (a31.eval (.tmp 7)) := by rw [ho31 7 rfl]; exact (Is.st _) _ _ _ hx31 g7
  replace g9 : (Is (.int .i64 ((EvalF e2 x).1))) W31 (a31.eval (.tmp 9)) := by rw [ho31 9 rfl]; exact (Is.st _) _ _ _ hx31 g9
  replace g13 : (Is (.int .i64 ((EvalF (two 3 e1 e2) x).1))) W31 (a31.eval (.tmp 13)) := by rw [ho31 13 rfl]; exact (Is.st _) _ _ _ hx31 g13
  replace g14 : (Is (.int .i64 ((EvalF (two 3 e1 e2) x).2))) W31 (a31.eval (.tmp 14)) := by rw [ho31 14 rfl]; exact (Is.st _) _ _ _ hx31 g14
  replace g15 : (Is (.int .i64 ((addF (EvalF e1 x).1 (EvalF e2 x).1).1))) W31 (a31.eval (.tmp 15)) := by rw [ho31 15 rfl]; exact (Is.st _) _ _ _ hx31 g15
  replace g16 : (Is (.int .i64 ((addF (EvalF e1 x).1 (EvalF e2 x).1).2))) W31 (a31.eval (.tmp 16)) := by rw [ho31 16 rfl]; exact (Is.st _) _ _ _ hx31 g16
  replace g17 : (Is (.int .i64 ((EvalF (two 5 e1 e2) x).1))) W31 (a31.eval (.tmp 17)) := by rw [ho31 17 rfl]; exact (Is.st _) _ _ _ hx31 g17
  replace g18 : (Is (.int .i64 ((EvalF (two 5 e1 e2) x).2))) W31 (a31.eval (.tmp 18)) := by rw [ho31 18 rfl]; exact (Is.st _) _ _ _ hx31 g18
  replace g19 : (Is (.int .i64 ((mulF (EvalF e1 x).1 (EvalF e2 x).1).1))) W31 (a31.eval (.tmp 19)) := by rw [ho31 19 rfl]; exact (Is.st _) _ _ _ hx31 g19
  replace g20 : (Is (.int .i64 ((mulF (EvalF e1 x).1 (EvalF e2 x).1).2))) W31 (a31.eval (.tmp 20)) := by rw [ho31 20 rfl]; exact (Is.st _) _ _ _ hx31 g20
  replace g21 : (Is (.int .i64 ((EvalF (two 4 e1 e2) x).1))) W31 (a31.eval (.tmp 21)) := by rw [ho31 21 rfl]; exact (Is.st _) _ _ _ hx31 g21
  replace g22 : (Is (.int .i64 ((EvalF (two 4 e1 e2) x).2))) W31 (a31.eval (.tmp 22)) := by rw [ho31 22 rfl]; exact (Is.st _) _ _ _ hx31 g22
  replace g23 : (Is (.int .i64 ((subF (EvalF e1 x).1 (EvalF e2 x).1).1))) W31 (a31.eval (.tmp 23)) := by rw [ho31 23 rfl]; exact (Is.st _) _ _ _ hx31 g23
  replace g24 : (Is (.int .i64 ((subF (EvalF e1 x).1 (EvalF e2 x).1).2))) W31 (a31.eval (.tmp 24)) := by rw [ho31 24 rfl]; exact (Is.st _) _ _ _ hx31 g24
  replace g25 : (Is (.int .i64 ((EvalF (two 6 e1 e2) x).1))) W31 (a31.eval (.tmp 25)) := by rw [ho31 25 rfl]; exact (Is.st _) _ _ _ hx31 g25
  replace g26 : (Is (.int .i64 ((EvalF (two 6 e1 e2) x).2))) W31 (a31.eval (.tmp 26)) := by rw [ho31 26 rfl]; exact (Is.st _) _ _ _ hx31 g26
  replace hW : Ext w W31 := hW.trans hx31
  replace hd31 : a31.defers = [] := hd31.trans hd30
  clear hx31 ho31
  have h3 : EvalF (two 3 e1 e2) x = addF (EvalF e1 x).1 (EvalF e2 x).1 := hap 3 (by decide) (by decide)
  have h4 : EvalF (two 4 e1 e2) x = subF (EvalF e1 x).1 (EvalF e2 x).1 := hap 4 (by decide) (by decide)
  have h5 : EvalF (two 5 e1 e2) x = mulF (EvalF e1 x).1 (EvalF e2 x).1 := hap 5 (by decide) (by decide)
  have h6 : EvalF (two 6 e1 e2) x = (min (EvalF e1 x).1 (EvalF e2 x).1, 0) := hap 6 (by decide) (by decide)
  have h7 : EvalF (two 7 e1 e2) x = (max (EvalF e1 x).1 (EvalF e2 x).1, 0) := hap 7 (by decide) (by decide)
  refine wp_seq ?_
  by_cases hlt : (EvalF e1 x).1 < (EvalF e2 x).1
  case pos =>
    refine wp_seq (lc20a x hok e1 e2  h3 h4 h5 h6 h7 hlt _ _ _ hs31 g7 g9 g13 g14 g15 g16 g17 g18 g19 g20 g21 g22 g23 g24 g25 g26 g27 g28 fun a32 W32 hx32 ho32 hs32 hd32 g215 => ?_)
    refine then_normal ?_
    replace g3 : (VarP 7 (ExA e1)) W32 (a32.eval (.tmp 3)) := by rw [ho32 3 rfl]; exact (VarP.st ExA.st) _ _ _ hx32 g3
    replace g4 : (VarP 7 (ExA e2)) W32 (a32.eval (.tmp 4)) := by rw [ho32 4 rfl]; exact (VarP.st ExA.st) _ _ _ hx32 g4
    replace g5 : (VarP 17 (Is (.agg x.cells.toArray))) W32 (a32.eval (.tmp 5)) := by rw [ho32 5 rfl]; exact (VarP.st (Is.st _)) _ _ _ hx32 g5
    replace g7 : (Is (.int .i64 ((EvalF e1 x).1))) W32 (a32.eval (.tmp 7)) := by rw [ho32 7 rfl]; exact (Is.st _) _ _ _ hx32 g7
    replace g9 : (Is (.int .i64 ((EvalF e2 x).1))) W32 (a32.eval (.tmp 9)) := by rw [ho32 9 rfl]; exact (Is.st _) _ _ _ hx32 g9
    replace hW : Ext w W32 := hW.trans hx32
    replace hd32 : a32.defers = [] := hd32.trans hd31
    clear hx32 ho32
    refine cond_f g215 ?_
    refine wp_skip ?_
    refine then_normal ?_
    exact lc_rest x hok e1 e2 w hc2 hc3 hA0 hB0 a32 W32 hs32 hd32 hW g3 g4 g5 g7 g9
  have hlta : ¬ ((EvalF e1 x).1 < (EvalF e2 x).1) := hlt
  clear hlt
  by_cases hlt : (EvalF e1 x).1 = (EvalF e2 x).1
  case pos =>
    refine wp_seq (lc20b x hok e1 e2  h3 h4 h5 h6 h7 hlt _ _ _ hs31 g7 g9 g13 g14 g15 g16 g17 g18 g19 g20 g21 g22 g23 g24 g25 g26 g27 g28 fun a33 W33 hx33 ho33 hs33 hd33 g215 => ?_)
    refine then_normal ?_
    replace g3 : (VarP 7 (ExA e1)) W33 (a33.eval (.tmp 3)) := by rw [ho33 3 rfl]; exact (VarP.st ExA.st) _ _ _ hx33 g3
    replace g4 : (VarP 7 (ExA e2)) W33 (a33.eval (.tmp 4)) := by rw [ho33 4 rfl]; exact (VarP.st ExA.st) _ _ _ hx33 g4
    replace g5 : (VarP 17 (Is (.agg x.cells.toArray))) W33 (a33.eval (.tmp 5)) := by rw [ho33 5 rfl]; exact (VarP.st (Is.st _)) _ _ _ hx33 g5
    replace g7 : (Is (.int .i64 ((EvalF e1 x).1))) W33 (a33.eval (.tmp 7)) := by rw [ho33 7 rfl]; exact (Is.st _) _ _ _ hx33 g7
    replace g9 : (Is (.int .i64 ((EvalF e2 x).1))) W33 (a33.eval (.tmp 9)) := by rw [ho33 9 rfl]; exact (Is.st _) _ _ _ hx33 g9
    replace hW : Ext w W33 := hW.trans hx33
    replace hd33 : a33.defers = [] := hd33.trans hd31
    clear hx33 ho33
    refine cond_f g215 ?_
    refine wp_skip ?_
    refine then_normal ?_
    exact lc_rest x hok e1 e2 w hc2 hc3 hA0 hB0 a33 W33 hs33 hd33 hW g3 g4 g5 g7 g9
  have hltb : ¬ ((EvalF e1 x).1 = (EvalF e2 x).1) := hlt
  clear hlt
  have hlt : (EvalF e2 x).1 < (EvalF e1 x).1 := by omega
  refine wp_seq (lc20c x hok e1 e2  h3 h4 h5 h6 h7 hlt _ _ _ hs31 g7 g9 g13 g14 g15 g16 g17 g18 g19 g20 g21 g22 g23 g24 g25 g26 g27 g28 fun a34 W34 hx34 ho34 hs34 hd34 g215 => ?_)
  refine then_normal ?_
  replace g3 : (VarP 7 (ExA e1)) W34 (a34.eval (.tmp 3)) := by rw [ho34 3 rfl]; exact (VarP.st ExA.st) _ _ _ hx34 g3
  replace g4 : (VarP 7 (ExA e2)) W34 (a34.eval (.tmp 4)) := by rw [ho34 4 rfl]; exact (VarP.st ExA.st) _ _ _ hx34 g4
  replace g5 : (VarP 17 (Is (.agg x.cells.toArray))) W34 (a34.eval (.tmp 5)) := by rw [ho34 5 rfl]; exact (VarP.st (Is.st _)) _ _ _ hx34 g5
  replace g7 : (Is (.int .i64 ((EvalF e1 x).1))) W34 (a34.eval (.tmp 7)) := by rw [ho34 7 rfl]; exact (Is.st _) _ _ _ hx34 g7
  replace g9 : (Is (.int .i64 ((EvalF e2 x).1))) W34 (a34.eval (.tmp 9)) := by rw [ho34 9 rfl]; exact (Is.st _) _ _ _ hx34 g9
  replace hW : Ext w W34 := hW.trans hx34
  replace hd34 : a34.defers = [] := hd34.trans hd31
  clear hx34 ho34
  refine cond_f g215 ?_
  refine wp_skip ?_
  refine then_normal ?_
  exact lc_rest x hok e1 e2 w hc2 hc3 hA0 hB0 a34 W34 hs34 hd34 hW g3 g4 g5 g7 g9

end Go.Proofs.Ytophdbbbojnobaa
