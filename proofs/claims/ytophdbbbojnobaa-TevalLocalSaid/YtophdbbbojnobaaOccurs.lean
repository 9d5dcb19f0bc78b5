/- occurs: the attributes of an expression. -/
import Derived.Test.YtophdbbbojnobaaProg
import Derived.Test.YtophdbbbojnobaaOps5
import Derived.Test.YtophdbbbojnobaaDivLaw
namespace Go.Proofs.Ytophdbbbojnobaa
open Go.RowKit
set_option linter.unusedVariables false

/-- the attributes of the node and of its first k operands -/
def occK (d : Nat) (e : Ex) (k : Nat) : Nat := (e.l.take k).foldl (fun s y => s ||| occN d y) (occ0 e)
theorem occK_lt (d : Nat) (e : Ex) (k : Nat) : occK d e k < 65536 := fold_lt (occN_lt d) _ _ (occ0_lt e)
theorem occK_succ {d : Nat} {e : Ex} {k : Nat} {c : Ex} (hi : e.l[k]? = some c) : occK d e (k + 1) = occK d e k ||| occN d c := by
  unfold occK; rw [List.take_add_one, hi]; simp
theorem occK_all (d : Nat) (e : Ex) : occK d e e.l.length = occN (d + 1) e := by unfold occK; rw [List.take_length]; rfl
noncomputable def ocC0 : Code := ((Try.f18.body.bind (regionOf 0)).getD .skip)
def oc0D : List (Option Tmp) := [some 1, some 2]
def oc0P (d : Nat) (e : Ex)  : List (World → Value → Prop) := [(VarP 7 (ExD (d + 1) e)), (Is (.int .i64 0))]
set_option maxHeartbeats 2000000 in
set_option maxRecDepth 100000 in
theorem oc0 (d : Nat) (e : Ex)  (Q : Exit → Act → World → Prop) (a0 : Act) (W : World) (hsz : a0.tmps.size = 37)  (g0 : (ExD (d + 1) e) W (a0.eval (.tmp 0)))
    (hQ : ∀ a1 W1, Ext W W1 → (∀ t, oc0D.contains (some t) = false → a1.eval (.tmp t) = a0.eval (.tmp t)) → a1.tmps.size = 37 → a1.defers = a0.defers → (VarP 7 (ExD (d + 1) e)) W1 (a1.eval (.tmp 1)) → Q .normal a1 W1) : ocC0.wp Try.prog Q a0 W := by
  conv => arg 2; whnf
  refine wp_region_sq 2 oc0D (oc0P d e ) 37 (by kernel_rfl) hsz ?_ ?_ ?_
  · exact AllSt.cons (VarP.st ExD.st) (AllSt.cons (Is.st _) (AllSt.nil))
  · simp only [List.take_succ_cons, List.take_zero]
    refine ObL.cons trivial (fun v ρ w hx hd S => op_box (n := 7) (p := ExD (d + 1) e) rfl ExD.st (by obtain ⟨cs, h1, h2⟩ := (show (ExD (d + 1) e) w (ρ (.tmp 0)) from (S.out rfl (ExD.st _ _ _ hx g0))); exact ⟨cs, h1, h2.len⟩) (S.out rfl (ExD.st _ _ _ hx g0))) ?_
    refine ObL.cons trivial (fun v ρ w hx hd S => op_move (p := Is (.int .i64 0)) (.inr rfl) (S.c _)) ?_
    exact ObL.nil
  · intro v a1 w hx hPP S hs hdf
    refine wpList_nil ?_
    exact hQ a1 w hx S.o hs hdf (S.dep 0 rfl (hPP 0 (by decide)))

noncomputable def ocC1 : Code := ((Try.f18.body.bind (regionOf 1)).getD .skip)
def oc1D : List (Option Tmp) := [some 3]
def oc1P (d : Nat) (e : Ex)  : List (World → Value → Prop) := [(Is (.int .i64 0))]
set_option maxHeartbeats 2000000 in
set_option maxRecDepth 100000 in
theorem oc1 (d : Nat) (e : Ex)  (Q : Exit → Act → World → Prop) (a0 : Act) (W : World) (hsz : a0.tmps.size = 37)  
    (hQ : ∀ a1 W1, Ext W W1 → (∀ t, oc1D.contains (some t) = false → a1.eval (.tmp t) = a0.eval (.tmp t)) → a1.tmps.size = 37 → a1.defers = a0.defers → (Is (.int .i64 0)) W1 (a1.eval (.tmp 3)) → Q .normal a1 W1) : ocC1.wp Try.prog Q a0 W := by
  conv => arg 2; whnf
  refine wp_region_sq 1 oc1D (oc1P d e ) 37 (by kernel_rfl) hsz ?_ ?_ ?_
  · exact AllSt.cons (Is.st _) (AllSt.nil)
  · simp only [List.take_succ_cons, List.take_zero]
    refine ObL.cons trivial (fun v ρ w hx hd S => op_move (p := Is (.int .i64 0)) (.inr rfl) (S.c _)) ?_
    exact ObL.nil
  · intro v a1 w hx hPP S hs hdf
    refine wpList_nil ?_
    exact hQ a1 w hx S.o hs hdf (S.dep 0 rfl (hPP 0 (by decide)))

noncomputable def ocC2 : Code := ((Try.f18.body.bind (regionOf 2)).getD .skip)
def oc2aD : List (Option Tmp) := [some 5, some 6, some 7, some 8, some 9, some 10, some 11, some 12, some 13, some 14, some 15, some 16, some 17]
def oc2aP (d : Nat) (e : Ex)  : List (World → Value → Prop) := [(CellP (Is (.int .i64 e.op))), (Is (.int .i64 e.op)), (Is (.bool false)), (Is (.bool false)), Any, Any, Any, (Is (.bool false)), (Is (.bool false)), Any, Any, Any, (Is (.bool false))]
set_option maxHeartbeats 2000000 in
set_option maxRecDepth 100000 in
theorem oc2a (d : Nat) (e : Ex)  (Q : Exit → Act → World → Prop) (a0 : Act) (W : World) (hsz : a0.tmps.size = 37) (hop : ¬ e.op = 2) (g1 : (VarP 7 (ExD (d + 1) e)) W (a0.eval (.tmp 1)))
    (hQ : ∀ a1 W1, Ext W W1 → (∀ t, oc2aD.contains (some t) = false → a1.eval (.tmp t) = a0.eval (.tmp t)) → a1.tmps.size = 37 → a1.defers = a0.defers → (Is (.bool false)) W1 (a1.eval (.tmp 17)) → Q .normal a1 W1) : ocC2.wp Try.prog Q a0 W := by
  conv => arg 2; whnf
  refine wp_region_sq 13 oc2aD (oc2aP d e ) 37 (by kernel_rfl) hsz ?_ ?_ ?_
  · exact AllSt.cons (CellP.st (Is.st _)) (AllSt.cons (Is.st _) (AllSt.cons (Is.st _) (AllSt.cons (Is.st _) (AllSt.cons Any.st (AllSt.cons Any.st (AllSt.cons Any.st (AllSt.cons (Is.st _) (AllSt.cons (Is.st _) (AllSt.cons Any.st (AllSt.cons Any.st (AllSt.cons Any.st (AllSt.cons (Is.st _) (AllSt.nil)))))))))))))
  · simp only [List.take_succ_cons, List.take_zero]
    refine ObL.cons trivial (fun v ρ w hx hd S => op_exOp rfl (VarP.loc (S.out rfl ((VarP.st ExD.st) _ _ _ hx g1)))) ?_
    refine ObL.cons trivial (fun v ρ w hx hd S => op_loadInt rfl (S.dep 0 rfl (hd 0 rfl))) ?_
    refine ObL.cons trivial (fun v ρ w hx hd S => (op_eql rfl (S.dep 1 rfl (hd 1 rfl)) (S.c _)).mono fun u w1 hu => ⟨hu.1, hu.2.trans (congrArg Value.bool (beq_eq_false_iff_ne.2 hop))⟩) ?_
    refine ObL.cons trivial (fun v ρ w hx hd S => op_move (p := Is (.bool false)) (.inl rfl) (S.dep 2 rfl (hd 2 rfl))) ?_
    refine ObL.skip ⟨rfl, fun w u h => h, fun _ => trivial⟩ ?_
    refine ObL.skip ⟨rfl, fun w u h => h, fun _ => trivial⟩ ?_
    refine ObL.skip ⟨rfl, fun w u h => h, fun _ => trivial⟩ ?_
    refine ObL.cons trivial (fun v ρ w hx hd S => op_pick (p := Is (.bool false)) false rfl (S.dep 3 rfl (hd 3 rfl)) (S.c _)) ?_
    refine ObL.cons trivial (fun v ρ w hx hd S => op_move (p := Is (.bool false)) (.inl rfl) (S.dep 7 rfl (hd 7 rfl))) ?_
    refine ObL.skip ⟨rfl, fun w u h => h, fun _ => trivial⟩ ?_
    refine ObL.skip ⟨rfl, fun w u h => h, fun _ => trivial⟩ ?_
    refine ObL.skip ⟨rfl, fun w u h => h, fun _ => trivial⟩ ?_
    refine ObL.cons trivial (fun v ρ w hx hd S => op_pick (p := Is (.bool false)) false rfl (S.dep 8 rfl (hd 8 rfl)) (S.c _)) ?_
    exact ObL.nil
  · intro v a1 w hx hPP S hs hdf
    refine wpList_nil ?_
    exact hQ a1 w hx S.o hs hdf (S.dep 12 rfl (hPP 12 (by decide)))

def oc2bD : List (Option Tmp) := [some 5, some 6, some 7, some 8, some 9, some 10, some 11, some 12, some 13, some 14, some 15, some 16, some 17]
def oc2bP (d : Nat) (e : Ex)  : List (World → Value → Prop) := [(CellP (Is (.int .i64 e.op))), (Is (.int .i64 e.op)), (Is (.bool true)), (Is (.bool true)), (CellP (Is (.int .i64 e.n))), (Is (.int .i64 e.n)), (Is (.bool false)), (Is (.bool false)), (Is (.bool false)), Any, Any, Any, (Is (.bool false))]
set_option maxHeartbeats 2000000 in
set_option maxRecDepth 100000 in
theorem oc2b (d : Nat) (e : Ex)  (Q : Exit → Act → World → Prop) (a0 : Act) (W : World) (hsz : a0.tmps.size = 37) (hop : e.op = 2) (h0 : ¬ 0 ≤ e.n) (g1 : (VarP 7 (ExD (d + 1) e)) W (a0.eval (.tmp 1)))
    (hQ : ∀ a1 W1, Ext W W1 → (∀ t, oc2bD.contains (some t) = false → a1.eval (.tmp t) = a0.eval (.tmp t)) → a1.tmps.size = 37 → a1.defers = a0.defers → (Is (.bool false)) W1 (a1.eval (.tmp 17)) → Q .normal a1 W1) : ocC2.wp Try.prog Q a0 W := by
  conv => arg 2; whnf
  refine wp_region_sq 13 oc2bD (oc2bP d e ) 37 (by kernel_rfl) hsz ?_ ?_ ?_
  · exact AllSt.cons (CellP.st (Is.st _)) (AllSt.cons (Is.st _) (AllSt.cons (Is.st _) (AllSt.cons (Is.st _) (AllSt.cons (CellP.st (Is.st _)) (AllSt.cons (Is.st _) (AllSt.cons (Is.st _) (AllSt.cons (Is.st _) (AllSt.cons (Is.st _) (AllSt.cons Any.st (AllSt.cons Any.st (AllSt.cons Any.st (AllSt.cons (Is.st _) (AllSt.nil)))))))))))))
  · simp only [List.take_succ_cons, List.take_zero]
    refine ObL.cons trivial (fun v ρ w hx hd S => op_exOp rfl (VarP.loc (S.out rfl ((VarP.st ExD.st) _ _ _ hx g1)))) ?_
    refine ObL.cons trivial (fun v ρ w hx hd S => op_loadInt rfl (S.dep 0 rfl (hd 0 rfl))) ?_
    refine ObL.cons trivial (fun v ρ w hx hd S => (op_eql rfl (S.dep 1 rfl (hd 1 rfl)) (S.c _)).mono fun u w1 hu => ⟨hu.1, hu.2.trans (congrArg Value.bool (beq_iff_eq.2 hop))⟩) ?_
    refine ObL.cons trivial (fun v ρ w hx hd S => op_move (p := Is (.bool true)) (.inl rfl) (S.dep 2 rfl (hd 2 rfl))) ?_
    refine ObL.cons ⟨rfl, fun w u h => h⟩ (fun v ρ w hx hd S => op_exN rfl (VarP.loc (S.out rfl ((VarP.st ExD.st) _ _ _ hx g1)))) ?_
    refine ObL.cons ⟨rfl, fun w u h => h⟩ (fun v ρ w hx hd S => op_loadInt rfl (S.dep 4 rfl (hd 4 rfl))) ?_
    refine ObL.cons ⟨rfl, fun w u h => h⟩ (fun v ρ w hx hd S => (op_geq rfl (S.dep 5 rfl (hd 5 rfl)) (S.c _)).mono fun u w1 hu => ⟨hu.1, hu.2.trans (congrArg Value.bool (decide_eq_false h0))⟩) ?_
    refine ObL.cons trivial (fun v ρ w hx hd S => op_pick (p := Is (.bool false)) true rfl (S.dep 3 rfl (hd 3 rfl)) (S.dep 6 rfl (hd 6 rfl))) ?_
    refine ObL.cons trivial (fun v ρ w hx hd S => op_move (p := Is (.bool false)) (.inl rfl) (S.dep 7 rfl (hd 7 rfl))) ?_
    refine ObL.skip ⟨rfl, fun w u h => h, fun _ => trivial⟩ ?_
    refine ObL.skip ⟨rfl, fun w u h => h, fun _ => trivial⟩ ?_
    refine ObL.skip ⟨rfl, fun w u h => h, fun _ => trivial⟩ ?_
    refine ObL.cons trivial (fun v ρ w hx hd S => op_pick (p := Is (.bool false)) false rfl (S.dep 8 rfl (hd 8 rfl)) (S.c _)) ?_
    exact ObL.nil
  · intro v a1 w hx hPP S hs hdf
    refine wpList_nil ?_
    exact hQ a1 w hx S.o hs hdf (S.dep 12 rfl (hPP 12 (by decide)))

def oc2cD : List (Option Tmp) := [some 5, some 6, some 7, some 8, some 9, some 10, some 11, some 12, some 13, some 14, some 15, some 16, some 17]
def oc2cP (d : Nat) (e : Ex)  : List (World → Value → Prop) := [(CellP (Is (.int .i64 e.op))), (Is (.int .i64 e.op)), (Is (.bool true)), (Is (.bool true)), (CellP (Is (.int .i64 e.n))), (Is (.int .i64 e.n)), (Is (.bool true)), (Is (.bool true)), (Is (.bool true)), (CellP (Is (.int .i64 e.n))), (Is (.int .i64 e.n)), (Is (.bool false)), (Is (.bool false))]
set_option maxHeartbeats 2000000 in
set_option maxRecDepth 100000 in
theorem oc2c (d : Nat) (e : Ex)  (Q : Exit → Act → World → Prop) (a0 : Act) (W : World) (hsz : a0.tmps.size = 37) (hop : e.op = 2) (h0 : 0 ≤ e.n) (h1 : ¬ e.n < 16) (g1 : (VarP 7 (ExD (d + 1) e)) W (a0.eval (.tmp 1)))
    (hQ : ∀ a1 W1, Ext W W1 → (∀ t, oc2cD.contains (some t) = false → a1.eval (.tmp t) = a0.eval (.tmp t)) → a1.tmps.size = 37 → a1.defers = a0.defers → (Is (.bool false)) W1 (a1.eval (.tmp 17)) → Q .normal a1 W1) : ocC2.wp Try.prog Q a0 W := by
  conv => arg 2; whnf
  refine wp_region_sq 13 oc2cD (oc2cP d e ) 37 (by kernel_rfl) hsz ?_ ?_ ?_
  · exact AllSt.cons (CellP.st (Is.st _)) (AllSt.cons (Is.st _) (AllSt.cons (Is.st _) (AllSt.cons (Is.st _) (AllSt.cons (CellP.st (Is.st _)) (AllSt.cons (Is.st _) (AllSt.cons (Is.st _) (AllSt.cons (Is.st _) (AllSt.cons (Is.st _) (AllSt.cons (CellP.st (Is.st _)) (AllSt.cons (Is.st _) (AllSt.cons (Is.st _) (AllSt.cons (Is.st _) (AllSt.nil)))))))))))))
  · simp only [List.take_succ_cons, List.take_zero]
    refine ObL.cons trivial (fun v ρ w hx hd S => op_exOp rfl (VarP.loc (S.out rfl ((VarP.st ExD.st) _ _ _ hx g1)))) ?_
    refine ObL.cons trivial (fun v ρ w hx hd S => op_loadInt rfl (S.dep 0 rfl (hd 0 rfl))) ?_
    refine ObL.cons trivial (fun v ρ w hx hd S => (op_eql rfl (S.dep 1 rfl (hd 1 rfl)) (S.c _)).mono fun u w1 hu => ⟨hu.1, hu.2.trans (congrArg Value.bool (beq_iff_eq.2 hop))⟩) ?_
    refine ObL.cons trivial (fun v ρ w hx hd S => op_move (p := Is (.bool true)) (.inl rfl) (S.dep 2 rfl (hd 2 rfl))) ?_
    refine ObL.cons ⟨rfl, fun w u h => h⟩ (fun v ρ w hx hd S => op_exN rfl (VarP.loc (S.out rfl ((VarP.st ExD.st) _ _ _ hx g1)))) ?_
    refine ObL.cons ⟨rfl, fun w u h => h⟩ (fun v ρ w hx hd S => op_loadInt rfl (S.dep 4 rfl (hd 4 rfl))) ?_
    refine ObL.cons ⟨rfl, fun w u h => h⟩ (fun v ρ w hx hd S => (op_geq rfl (S.dep 5 rfl (hd 5 rfl)) (S.c _)).mono fun u w1 hu => ⟨hu.1, hu.2.trans (congrArg Value.bool (decide_eq_true h0))⟩) ?_
    refine ObL.cons trivial (fun v ρ w hx hd S => op_pick (p := Is (.bool true)) true rfl (S.dep 3 rfl (hd 3 rfl)) (S.dep 6 rfl (hd 6 rfl))) ?_
    refine ObL.cons trivial (fun v ρ w hx hd S => op_move (p := Is (.bool true)) (.inl rfl) (S.dep 7 rfl (hd 7 rfl))) ?_
    refine ObL.cons ⟨rfl, fun w u h => h⟩ (fun v ρ w hx hd S => op_exN rfl (VarP.loc (S.out rfl ((VarP.st ExD.st) _ _ _ hx g1)))) ?_
    refine ObL.cons ⟨rfl, fun w u h => h⟩ (fun v ρ w hx hd S => op_loadInt rfl (S.dep 9 rfl (hd 9 rfl))) ?_
    refine ObL.cons ⟨rfl, fun w u h => h⟩ (fun v ρ w hx hd S => (op_lss rfl (S.dep 10 rfl (hd 10 rfl)) (S.c _)).mono fun u w1 hu => ⟨hu.1, hu.2.trans (congrArg Value.bool (decide_eq_false h1))⟩) ?_
    refine ObL.cons trivial (fun v ρ w hx hd S => op_pick (p := Is (.bool false)) true rfl (S.dep 8 rfl (hd 8 rfl)) (S.dep 11 rfl (hd 11 rfl))) ?_
    exact ObL.nil
  · intro v a1 w hx hPP S hs hdf
    refine wpList_nil ?_
    exact hQ a1 w hx S.o hs hdf (S.dep 12 rfl (hPP 12 (by decide)))

def oc2dD : List (Option Tmp) := [some 5, some 6, some 7, some 8, some 9, some 10, some 11, some 12, some 13, some 14, some 15, some 16, some 17]
def oc2dP (d : Nat) (e : Ex)  : List (World → Value → Prop) := [(CellP (Is (.int .i64 e.op))), (Is (.int .i64 e.op)), (Is (.bool true)), (Is (.bool true)), (CellP (Is (.int .i64 e.n))), (Is (.int .i64 e.n)), (Is (.bool true)), (Is (.bool true)), (Is (.bool true)), (CellP (Is (.int .i64 e.n))), (Is (.int .i64 e.n)), (Is (.bool true)), (Is (.bool true))]
set_option maxHeartbeats 2000000 in
set_option maxRecDepth 100000 in
theorem oc2d (d : Nat) (e : Ex)  (Q : Exit → Act → World → Prop) (a0 : Act) (W : World) (hsz : a0.tmps.size = 37) (hop : e.op = 2) (h0 : 0 ≤ e.n) (h1 : e.n < 16) (g1 : (VarP 7 (ExD (d + 1) e)) W (a0.eval (.tmp 1)))
    (hQ : ∀ a1 W1, Ext W W1 → (∀ t, oc2dD.contains (some t) = false → a1.eval (.tmp t) = a0.eval (.tmp t)) → a1.tmps.size = 37 → a1.defers = a0.defers → (Is (.bool true)) W1 (a1.eval (.tmp 17)) → Q .normal a1 W1) : ocC2.wp Try.prog Q a0 W := by
  conv => arg 2; whnf
  refine wp_region_sq 13 oc2dD (oc2dP d e ) 37 (by kernel_rfl) hsz ?_ ?_ ?_
  · exact AllSt.cons (CellP.st (Is.st _)) (AllSt.cons (Is.st _) (AllSt.cons (Is.st _) (AllSt.cons (Is.st _) (AllSt.cons (CellP.st (Is.st _)) (AllSt.cons (Is.st _) (AllSt.cons (Is.st _) (AllSt.cons (Is.st _) (AllSt.cons (Is.st _) (AllSt.cons (CellP.st (Is.st _)) (AllSt.cons (Is.st _) (AllSt.cons (Is.st _) (AllSt.cons (Is.st _) (AllSt.nil)))))))))))))
  · simp only [List.take_succ_cons, List.take_zero]
    refine ObL.cons trivial (fun v ρ w hx hd S => op_exOp rfl (VarP.loc (S.out rfl ((VarP.st ExD.st) _ _ _ hx g1)))) ?_
    refine ObL.cons trivial (fun v ρ w hx hd S => op_loadInt rfl (S.dep 0 rfl (hd 0 rfl))) ?_
    refine ObL.cons trivial (fun v ρ w hx hd S => (op_eql rfl (S.dep 1 rfl (hd 1 rfl)) (S.c _)).mono fun u w1 hu => ⟨hu.1, hu.2.trans (congrArg Value.bool (beq_iff_eq.2 hop))⟩) ?_
    refine ObL.cons trivial (fun v ρ w hx hd S => op_move (p := Is (.bool true)) (.inl rfl) (S.dep 2 rfl (hd 2 rfl))) ?_
    refine ObL.cons ⟨rfl, fun w u h => h⟩ (fun v ρ w hx hd S => op_exN rfl (VarP.loc (S.out rfl ((VarP.st ExD.st) _ _ _ hx g1)))) ?_
    refine ObL.cons ⟨rfl, fun w u h => h⟩ (fun v ρ w hx hd S => op_loadInt rfl (S.dep 4 rfl (hd 4 rfl))) ?_
    refine ObL.cons ⟨rfl, fun w u h => h⟩ (fun v ρ w hx hd S => (op_geq rfl (S.dep 5 rfl (hd 5 rfl)) (S.c _)).mono fun u w1 hu => ⟨hu.1, hu.2.trans (congrArg Value.bool (decide_eq_true h0))⟩) ?_
    refine ObL.cons trivial (fun v ρ w hx hd S => op_pick (p := Is (.bool true)) true rfl (S.dep 3 rfl (hd 3 rfl)) (S.dep 6 rfl (hd 6 rfl))) ?_
    refine ObL.cons trivial (fun v ρ w hx hd S => op_move (p := Is (.bool true)) (.inl rfl) (S.dep 7 rfl (hd 7 rfl))) ?_
    refine ObL.cons ⟨rfl, fun w u h => h⟩ (fun v ρ w hx hd S => op_exN rfl (VarP.loc (S.out rfl ((VarP.st ExD.st) _ _ _ hx g1)))) ?_
    refine ObL.cons ⟨rfl, fun w u h => h⟩ (fun v ρ w hx hd S => op_loadInt rfl (S.dep 9 rfl (hd 9 rfl))) ?_
    refine ObL.cons ⟨rfl, fun w u h => h⟩ (fun v ρ w hx hd S => (op_lss rfl (S.dep 10 rfl (hd 10 rfl)) (S.c _)).mono fun u w1 hu => ⟨hu.1, hu.2.trans (congrArg Value.bool (decide_eq_true h1))⟩) ?_
    refine ObL.cons trivial (fun v ρ w hx hd S => op_pick (p := Is (.bool true)) true rfl (S.dep 8 rfl (hd 8 rfl)) (S.dep 11 rfl (hd 11 rfl))) ?_
    exact ObL.nil
  · intro v a1 w hx hPP S hs hdf
    refine wpList_nil ?_
    exact hQ a1 w hx S.o hs hdf (S.dep 12 rfl (hPP 12 (by decide)))

noncomputable def ocC3 : Code := ((Try.f18.body.bind (regionOf 3)).getD .skip)
def oc3D : List (Option Tmp) := [some 18, some 19, some 20, some 3]
def oc3P (d : Nat) (e : Ex)  : List (World → Value → Prop) := [(CellP (Is (.int .i64 e.n))), (Is (.int .i64 e.n)), (Is (.int .i64 (((2 ^ e.n.toNat : Nat) : Int)))), (Is (.int .i64 (((2 ^ e.n.toNat : Nat) : Int))))]
set_option maxHeartbeats 2000000 in
set_option maxRecDepth 100000 in
theorem oc3 (d : Nat) (e : Ex)  (Q : Exit → Act → World → Prop) (a0 : Act) (W : World) (hsz : a0.tmps.size = 37) (h0 : 0 ≤ e.n) (h1 : e.n < 16) (g1 : (VarP 7 (ExD (d + 1) e)) W (a0.eval (.tmp 1)))
    (hQ : ∀ a1 W1, Ext W W1 → (∀ t, oc3D.contains (some t) = false → a1.eval (.tmp t) = a0.eval (.tmp t)) → a1.tmps.size = 37 → a1.defers = a0.defers → (Is (.int .i64 (((2 ^ e.n.toNat : Nat) : Int)))) W1 (a1.eval (.tmp 3)) → Q .normal a1 W1) : ocC3.wp Try.prog Q a0 W := by
  conv => arg 2; whnf
  refine wp_region_sq 4 oc3D (oc3P d e ) 37 (by kernel_rfl) hsz ?_ ?_ ?_
  · exact AllSt.cons (CellP.st (Is.st _)) (AllSt.cons (Is.st _) (AllSt.cons (Is.st _) (AllSt.cons (Is.st _) (AllSt.nil))))
  · simp only [List.take_succ_cons, List.take_zero]
    refine ObL.cons trivial (fun v ρ w hx hd S => op_exN rfl (VarP.loc (S.out rfl ((VarP.st ExD.st) _ _ _ hx g1)))) ?_
    refine ObL.cons trivial (fun v ρ w hx hd S => op_loadInt rfl (S.dep 0 rfl (hd 0 rfl))) ?_
    refine ObL.cons trivial (fun v ρ w hx hd S => op_shl1 h0 h1 rfl S (S.dep 1 rfl (hd 1 rfl))) ?_
    refine ObL.cons trivial (fun v ρ w hx hd S => op_move (p := Is (.int .i64 (((2 ^ e.n.toNat : Nat) : Int)))) (.inr rfl) (S.dep 2 rfl (hd 2 rfl))) ?_
    exact ObL.nil
  · intro v a1 w hx hPP S hs hdf
    refine wpList_nil ?_
    exact hQ a1 w hx S.o hs hdf (S.dep 3 rfl (hPP 3 (by decide)))

noncomputable def ocC4 : Code := ((Try.f18.body.bind (regionOf 4)).getD .skip)
def oc4D : List (Option Tmp) := [some 4]
def oc4P (d : Nat) (e : Ex)  : List (World → Value → Prop) := [(Is (.int .i64 0))]
set_option maxHeartbeats 2000000 in
set_option maxRecDepth 100000 in
theorem oc4 (d : Nat) (e : Ex)  (Q : Exit → Act → World → Prop) (a0 : Act) (W : World) (hsz : a0.tmps.size = 37)  
    (hQ : ∀ a1 W1, Ext W W1 → (∀ t, oc4D.contains (some t) = false → a1.eval (.tmp t) = a0.eval (.tmp t)) → a1.tmps.size = 37 → a1.defers = a0.defers → (Is (.int .i64 0)) W1 (a1.eval (.tmp 4)) → Q .normal a1 W1) : ocC4.wp Try.prog Q a0 W := by
  conv => arg 2; whnf
  refine wp_region_sq 1 oc4D (oc4P d e ) 37 (by kernel_rfl) hsz ?_ ?_ ?_
  · exact AllSt.cons (Is.st _) (AllSt.nil)
  · simp only [List.take_succ_cons, List.take_zero]
    refine ObL.cons trivial (fun v ρ w hx hd S => op_move (p := Is (.int .i64 0)) (.inr rfl) (S.c _)) ?_
    exact ObL.nil
  · intro v a1 w hx hPP S hs hdf
    refine wpList_nil ?_
    exact hQ a1 w hx S.o hs hdf (S.dep 0 rfl (hPP 0 (by decide)))

noncomputable def ocC5 : Code := ((Try.f18.body.bind (regionOf 5)).getD .skip)
def oc5aD : List (Option Tmp) := [some 21, some 22, some 23, some 24, some 25]
def oc5aP (d : Nat) (e : Ex) (k : Nat) : List (World → Value → Prop) := [(Is (.int .i64 (((k : Nat) : Int)))), (CellP (SlP 7 (fun w => ExIn w d) e.l)), (SlP 7 (fun w => ExIn w d) e.l), (Is (.int .i64 (((e.l.length : Nat) : Int)))), (Is (.bool true))]
set_option maxHeartbeats 2000000 in
set_option maxRecDepth 100000 in
theorem oc5a (d : Nat) (e : Ex) (k : Nat) (Q : Exit → Act → World → Prop) (a0 : Act) (W : World) (hsz : a0.tmps.size = 37) (hkl : k < e.l.length) (g1 : (VarP 7 (ExD (d + 1) e)) W (a0.eval (.tmp 1))) (g4 : (Is (.int .i64 (((k : Nat) : Int)))) W (a0.eval (.tmp 4)))
    (hQ : ∀ a1 W1, Ext W W1 → (∀ t, oc5aD.contains (some t) = false → a1.eval (.tmp t) = a0.eval (.tmp t)) → a1.tmps.size = 37 → a1.defers = a0.defers → (Is (.bool true)) W1 (a1.eval (.tmp 25)) → Q .normal a1 W1) : ocC5.wp Try.prog Q a0 W := by
  conv => arg 2; whnf
  refine wp_region_sq 5 oc5aD (oc5aP d e k) 37 (by kernel_rfl) hsz ?_ ?_ ?_
  · exact AllSt.cons (Is.st _) (AllSt.cons (CellP.st (SlP.st ExIn.st)) (AllSt.cons (SlP.st ExIn.st) (AllSt.cons (Is.st _) (AllSt.cons (Is.st _) (AllSt.nil)))))
  · simp only [List.take_succ_cons, List.take_zero]
    refine ObL.cons trivial (fun v ρ w hx hd S => op_move (p := Is (.int .i64 (((k : Nat) : Int)))) (.inl rfl) (S.out rfl ((Is.st _) _ _ _ hx g4))) ?_
    refine ObL.cons trivial (fun v ρ w hx hd S => op_exL rfl (VarP.loc (S.out rfl ((VarP.st ExD.st) _ _ _ hx g1)))) ?_
    refine ObL.cons trivial (fun v ρ w hx hd S => op_loadExs rfl (S.dep 1 rfl (hd 1 rfl))) ?_
    refine ObL.cons trivial (fun v ρ w hx hd S => op_lenExs rfl (show (SlP 7 (fun w => ExIn w d) e.l) w (ρ (.tmp 23)) from (S.dep 2 rfl (hd 2 rfl)))) ?_
    refine ObL.cons trivial (fun v ρ w hx hd S => (op_lss rfl (S.dep 0 rfl (hd 0 rfl)) (S.dep 3 rfl (hd 3 rfl))).mono fun u w1 hu => ⟨hu.1, hu.2.trans (congrArg Value.bool (decide_eq_true (by omega)))⟩) ?_
    exact ObL.nil
  · intro v a1 w hx hPP S hs hdf
    refine wpList_nil ?_
    exact hQ a1 w hx S.o hs hdf (S.dep 4 rfl (hPP 4 (by decide)))

noncomputable def ocC7 : Code := ((Try.f18.body.bind (regionOf 7)).getD .skip)
def oc7E : List (Option Tmp) := [some 28, some 29, some 30, some 31, some 32, some 33, some 34, some 35]
def oc7D : List (Option Tmp) := oc7E ++ [some 3]
def oc7P (d : Nat) (e : Ex) (k : Nat) (c : Ex) : List (World → Value → Prop) := [(Is (.int .i64 (((occK d e k : Nat) : Int)))), (CellP (SlP 7 (fun w => ExIn w d) e.l)), (SlP 7 (fun w => ExIn w d) e.l), (Is (.int .i64 (((k : Nat) : Int)))), (LocP 7 (ExD d c)), (ExD d c), (Is (.int .i64 (((occN d c : Nat) : Int)))), (Is (.int .i64 (((occK d e (k + 1) : Nat) : Int))))]
set_option maxHeartbeats 2000000 in
set_option maxRecDepth 100000 in
theorem oc7 (d : Nat) (e : Ex) (k : Nat) (c : Ex) (Q : Exit → Act → World → Prop) (a0 : Act) (W : World) (hsz : a0.tmps.size = 37) (hi : e.l[k]? = some c) (ih : ∀ (cs : List Value) (e : Ex) (w : World), ExIn w d cs e → Calls Try.prog 18 #[.agg cs.toArray] w fun en w1 => en = .returned (.int .i64 ((occN d e : Nat) : Int)) ∧ Ext w w1) (g1 : (VarP 7 (ExD (d + 1) e)) W (a0.eval (.tmp 1))) (g3 : (Is (.int .i64 (((occK d e k : Nat) : Int)))) W (a0.eval (.tmp 3))) (g4 : (Is (.int .i64 (((k : Nat) : Int)))) W (a0.eval (.tmp 4)))
    (hQ : ∀ a1 W1, Ext W W1 → (∀ t, oc7D.contains (some t) = false → a1.eval (.tmp t) = a0.eval (.tmp t)) → a1.tmps.size = 37 → a1.defers = a0.defers → (Is (.int .i64 (((occK d e (k + 1) : Nat) : Int)))) W1 (a1.eval (.tmp 3)) → Q .normal a1 W1) : ocC7.wp Try.prog Q a0 W := by
  conv => arg 2; whnf
  refine wp_region_sq 8 oc7E (oc7P d e k c) 37 (by kernel_rfl) hsz ?_ ?_ ?_
  · exact AllSt.cons (Is.st _) (AllSt.cons (CellP.st (SlP.st ExIn.st)) (AllSt.cons (SlP.st ExIn.st) (AllSt.cons (Is.st _) (AllSt.cons (LocP.st ExD.st) (AllSt.cons ExD.st (AllSt.cons (Is.st _) (AllSt.cons (Is.st _) (AllSt.nil))))))))
  · simp only [List.take_succ_cons, List.take_zero]
    refine ObL.cons trivial (fun v ρ w hx hd S => op_move (p := Is (.int .i64 (((occK d e k : Nat) : Int)))) (.inl rfl) (S.out rfl ((Is.st _) _ _ _ hx g3))) ?_
    refine ObL.cons trivial (fun v ρ w hx hd S => op_exL rfl (VarP.loc (S.out rfl ((VarP.st ExD.st) _ _ _ hx g1)))) ?_
    refine ObL.cons trivial (fun v ρ w hx hd S => op_loadExs rfl (S.dep 1 rfl (hd 1 rfl))) ?_
    refine ObL.cons trivial (fun v ρ w hx hd S => op_move (p := Is (.int .i64 (((k : Nat) : Int)))) (.inl rfl) (S.out rfl ((Is.st _) _ _ _ hx g4))) ?_
    refine ObL.cons trivial (fun v ρ w hx hd S => op_exAtD rfl (show (SlP 7 (fun w => ExIn w d) e.l) w (ρ (.tmp 30)) from (S.dep 2 rfl (hd 2 rfl))) (S.dep 3 rfl (hd 3 rfl)) hi) ?_
    refine ObL.cons trivial (fun v ρ w hx hd S => op_loadL _ _ rfl _ Try.underlying26 rfl info_expr (S.dep 4 rfl (hd 4 rfl))) ?_
    refine ObL.cons trivial (fun v ρ w hx hd S => (by obtain ⟨cs, h1, h2⟩ := (show (ExD d c) w (ρ (.tmp 33)) from (S.dep 5 rfl (hd 5 rfl))); exact call_occurs rfl S h1 (ih cs c w h2) (by rintro en w1 ⟨rfl, h⟩; exact ⟨_, rfl, h, rfl⟩))) ?_
    refine ObL.cons trivial (fun v ρ w hx hd S => (op_or (occK_lt d e k) (occN_lt d c) rfl (S.dep 0 rfl (hd 0 rfl)) (S.dep 6 rfl (hd 6 rfl))).mono fun u w1 hu => ⟨hu.1, hu.2.trans (by rw [occK_succ hi])⟩) ?_
    exact ObL.nil
  · intro v a1 w hx hPP S hs hdf
    refine wpList_plain rfl fun K hK => ?_
    refine OpPost.wp (op_move (p := Is (.int .i64 (((occK d e (k + 1) : Nat) : Int)))) (.inr rfl) (S.dep 7 rfl (hPP 7 (by decide)))) fun u w1 hu => ?_
    refine hK _ _ (wpList_nil ?_)
    exact hQ (a1.put (some 3) u) w1 (hx.trans hu.1) (put_others S) (put_size.trans hs) ((by rfl : _ = a1.defers).trans hdf) (by rw [put_same (by rw [hs]; decide)]; exact hu.2)

noncomputable def ocC6 : Code := ((Try.f18.body.bind (regionOf 6)).getD .skip)
def oc6E : List (Option Tmp) := [some 26, some 27]
def oc6D : List (Option Tmp) := oc6E ++ [some 4]
def oc6P (d : Nat) (e : Ex) (k : Nat) : List (World → Value → Prop) := [(Is (.int .i64 (((k : Nat) : Int)))), (Is (.int .i64 (((k + 1 : Nat) : Int))))]
set_option maxHeartbeats 2000000 in
set_option maxRecDepth 100000 in
theorem oc6 (d : Nat) (e : Ex) (k : Nat) (Q : Exit → Act → World → Prop) (a0 : Act) (W : World) (hsz : a0.tmps.size = 37) (hkl : k < e.l.length) (hlen : e.l.length ≤ 9223372036854775807) (g4 : (Is (.int .i64 (((k : Nat) : Int)))) W (a0.eval (.tmp 4)))
    (hQ : ∀ a1 W1, Ext W W1 → (∀ t, oc6D.contains (some t) = false → a1.eval (.tmp t) = a0.eval (.tmp t)) → a1.tmps.size = 37 → a1.defers = a0.defers → (Is (.int .i64 (((k + 1 : Nat) : Int)))) W1 (a1.eval (.tmp 4)) → Q .normal a1 W1) : ocC6.wp Try.prog Q a0 W := by
  conv => arg 2; whnf
  refine wp_region_sq 2 oc6E (oc6P d e k) 37 (by kernel_rfl) hsz ?_ ?_ ?_
  · exact AllSt.cons (Is.st _) (AllSt.cons (Is.st _) (AllSt.nil))
  · simp only [List.take_succ_cons, List.take_zero]
    refine ObL.cons trivial (fun v ρ w hx hd S => op_move (p := Is (.int .i64 (((k : Nat) : Int)))) (.inl rfl) (S.out rfl ((Is.st _) _ _ _ hx g4))) ?_
    refine ObL.cons trivial (fun v ρ w hx hd S => (op_add rfl (S.dep 0 rfl (hd 0 rfl)) (S.c _) (by constructor <;> omega)).mono fun u w1 hu => ⟨hu.1, hu.2.trans (by simp)⟩) ?_
    exact ObL.nil
  · intro v a1 w hx hPP S hs hdf
    refine wpList_plain rfl fun K hK => ?_
    refine OpPost.wp (op_move (p := Is (.int .i64 (((k + 1 : Nat) : Int)))) (.inr rfl) (S.dep 1 rfl (hPP 1 (by decide)))) fun u w1 hu => ?_
    refine hK _ _ (wpList_nil ?_)
    exact hQ (a1.put (some 4) u) w1 (hx.trans hu.1) (put_others S) (put_size.trans hs) ((by rfl : _ = a1.defers).trans hdf) (by rw [put_same (by rw [hs]; decide)]; exact hu.2)

def oc5bD : List (Option Tmp) := [some 21, some 22, some 23, some 24, some 25]
def oc5bP (d : Nat) (e : Ex) (k : Nat) : List (World → Value → Prop) := [(Is (.int .i64 (((k : Nat) : Int)))), (CellP (SlP 7 (fun w => ExIn w d) e.l)), (SlP 7 (fun w => ExIn w d) e.l), (Is (.int .i64 (((e.l.length : Nat) : Int)))), (Is (.bool false))]
set_option maxHeartbeats 2000000 in
set_option maxRecDepth 100000 in
theorem oc5b (d : Nat) (e : Ex) (k : Nat) (Q : Exit → Act → World → Prop) (a0 : Act) (W : World) (hsz : a0.tmps.size = 37) (hkl : ¬ k < e.l.length) (g1 : (VarP 7 (ExD (d + 1) e)) W (a0.eval (.tmp 1))) (g4 : (Is (.int .i64 (((k : Nat) : Int)))) W (a0.eval (.tmp 4)))
    (hQ : ∀ a1 W1, Ext W W1 → (∀ t, oc5bD.contains (some t) = false → a1.eval (.tmp t) = a0.eval (.tmp t)) → a1.tmps.size = 37 → a1.defers = a0.defers → (Is (.bool false)) W1 (a1.eval (.tmp 25)) → Q .normal a1 W1) : ocC5.wp Try.prog Q a0 W := by
  conv => arg 2; whnf
  refine wp_region_sq 5 oc5bD (oc5bP d e k) 37 (by kernel_rfl) hsz ?_ ?_ ?_
  · exact AllSt.cons (Is.st _) (AllSt.cons (CellP.st (SlP.st ExIn.st)) (AllSt.cons (SlP.st ExIn.st) (AllSt.cons (Is.st _) (AllSt.cons (Is.st _) (AllSt.nil)))))
  · simp only [List.take_succ_cons, List.take_zero]
    refine ObL.cons trivial (fun v ρ w hx hd S => op_move (p := Is (.int .i64 (((k : Nat) : Int)))) (.inl rfl) (S.out rfl ((Is.st _) _ _ _ hx g4))) ?_
    refine ObL.cons trivial (fun v ρ w hx hd S => op_exL rfl (VarP.loc (S.out rfl ((VarP.st ExD.st) _ _ _ hx g1)))) ?_
    refine ObL.cons trivial (fun v ρ w hx hd S => op_loadExs rfl (S.dep 1 rfl (hd 1 rfl))) ?_
    refine ObL.cons trivial (fun v ρ w hx hd S => op_lenExs rfl (show (SlP 7 (fun w => ExIn w d) e.l) w (ρ (.tmp 23)) from (S.dep 2 rfl (hd 2 rfl)))) ?_
    refine ObL.cons trivial (fun v ρ w hx hd S => (op_lss rfl (S.dep 0 rfl (hd 0 rfl)) (S.dep 3 rfl (hd 3 rfl))).mono fun u w1 hu => ⟨hu.1, hu.2.trans (congrArg Value.bool (decide_eq_false (by omega)))⟩) ?_
    exact ObL.nil
  · intro v a1 w hx hPP S hs hdf
    refine wpList_nil ?_
    exact hQ a1 w hx S.o hs hdf (S.dep 4 rfl (hPP 4 (by decide)))

noncomputable def ocC8 : Code := ((Try.f18.body.bind (regionOf 8)).getD .skip)
def oc8D : List (Option Tmp) := [some 36, some 2]
def oc8P (d : Nat) (e : Ex) (k : Nat) : List (World → Value → Prop) := [(Is (.int .i64 (((occK d e k : Nat) : Int)))), (Is (.int .i64 (((occK d e k : Nat) : Int))))]
set_option maxHeartbeats 2000000 in
set_option maxRecDepth 100000 in
theorem oc8 (d : Nat) (e : Ex) (k : Nat) (Q : Exit → Act → World → Prop) (a0 : Act) (W : World) (hsz : a0.tmps.size = 37)  (g3 : (Is (.int .i64 (((occK d e k : Nat) : Int)))) W (a0.eval (.tmp 3)))
    (hQ : ∀ a1 W1, Ext W W1 → (∀ t, oc8D.contains (some t) = false → a1.eval (.tmp t) = a0.eval (.tmp t)) → a1.tmps.size = 37 → a1.defers = a0.defers → (Is (.int .i64 (((occK d e k : Nat) : Int)))) W1 (a1.eval (.tmp 2)) → Q .normal a1 W1) : ocC8.wp Try.prog Q a0 W := by
  conv => arg 2; whnf
  refine wp_region_sq 2 oc8D (oc8P d e k) 37 (by kernel_rfl) hsz ?_ ?_ ?_
  · exact AllSt.cons (Is.st _) (AllSt.cons (Is.st _) (AllSt.nil))
  · simp only [List.take_succ_cons, List.take_zero]
    refine ObL.cons trivial (fun v ρ w hx hd S => op_move (p := Is (.int .i64 (((occK d e k : Nat) : Int)))) (.inl rfl) (S.out rfl ((Is.st _) _ _ _ hx g3))) ?_
    refine ObL.cons trivial (fun v ρ w hx hd S => op_move (p := Is (.int .i64 (((occK d e k : Nat) : Int)))) (.inr rfl) (S.dep 0 rfl (hd 0 rfl))) ?_
    exact ObL.nil
  · intro v a1 w hx hPP S hs hdf
    refine wpList_nil ?_
    exact hQ a1 w hx S.o hs hdf (S.dep 1 rfl (hPP 1 (by decide)))

noncomputable def ocTail : Code := ((Try.f18.body.bind (behind 2)).getD .skip)
set_option maxRecDepth 100000 in
set_option maxHeartbeats 2000000 in
theorem oc_rest (d : Nat) (e : Ex) (w : World) (ih : ∀ (cs : List Value) (e : Ex) (w : World), ExIn w d cs e → Calls Try.prog 18 #[.agg cs.toArray] w fun en w1 => en = .returned (.int .i64 ((occN d e : Nat) : Int)) ∧ Ext w w1) (aR : Act) (WR : World) (hsR : aR.tmps.size = 37) (hdR : aR.defers = []) (hW : Ext w WR) (g1 : (VarP 7 (ExD (d + 1) e)) WR (aR.eval (.tmp 1))) (g3 : (Is (.int .i64 ((occ0 e : Nat) : Int))) WR (aR.eval (.tmp 3))) :
    ocTail.wp Try.prog (bodyPost Try.prog Try.f18 (fun en w1 => en = .returned (.int .i64 ((occN (d + 1) e : Nat) : Int)) ∧ Ext w w1)) aR WR := by
  conv => arg 2; whnf
  refine wp_seq ?_
  refine wp_seq (oc4 d e  _ _ _ hsR   fun a8 W8 hx8 ho8 hs8 hd8 g4 => ?_)
  refine then_normal ?_
  replace g1 : (VarP 7 (ExD (d + 1) e)) W8 (a8.eval (.tmp 1)) := by rw [ho8 1 rfl]; exact (VarP.st ExD.st) _ _ _ hx8 g1
  replace g3 : (Is (.int .i64 (((occ0 e : Nat) : Int)))) W8 (a8.eval (.tmp 3)) := by rw [ho8 3 rfl]; exact (Is.st _) _ _ _ hx8 g3
  replace hW : Ext w W8 := hW.trans hx8
  replace hd8 : a8.defers = [] := hd8.trans hdR
  clear hx8 ho8
  obtain ⟨hlen⟩ : Nonempty (e.l.length ≤ 9223372036854775807) := by obtain ⟨b, cs, _, _, _, cs1, _, h⟩ := g1; obtain ⟨sv, _, A, cap, _, h1, h2, _⟩ := exD_l h; exact ⟨by omega⟩
  refine wp_block ?_
  refine wp_loop (fun a w1 => ∃ k : Nat, k ≤ e.l.length ∧ Ext w w1 ∧ a.tmps.size = 37 ∧ a.defers = [] ∧ (VarP 7 (ExD (d + 1) e)) w1 (a.eval (.tmp 1)) ∧ (Is (.int .i64 ((occK d e k : Nat) : Int))) w1 (a.eval (.tmp 3)) ∧ Is (.int .i64 ((k : Nat) : Int)) w1 (a.eval (.tmp 4))) (fun a _ => e.l.length - (intOf (a.eval (.tmp 4))).toNat) ⟨0, Nat.zero_le _, hW, hs8, hd8, g1, g3, g4⟩ ?_
  clear hW g1 g3 g4
  rintro aL wL ⟨k, hk, hW, hsL, hdL, g1, g3, g4⟩
  have hmu : (e.l.length - (intOf (aL.eval (.tmp 4))).toNat) = e.l.length - k := by rw [show aL.eval (.tmp 4) = _ from g4]; simp [intOf]
  rw [hmu]
  refine wp_seq ?_
  by_cases hkl : k < e.l.length
  · have hi : e.l[k]? = some e.l[k] := List.getElem?_eq_getElem hkl
    generalize e.l[k] = c at hi
    refine wp_seq (oc5a d e k _ _ _ hsL hkl g1 g4 fun a9 W9 hx9 ho9 hs9 hd9 g25 => ?_)
    refine then_normal ?_
    replace g1 : (VarP 7 (ExD (d + 1) e)) W9 (a9.eval (.tmp 1)) := by rw [ho9 1 rfl]; exact (VarP.st ExD.st) _ _ _ hx9 g1
    replace g3 : (Is (.int .i64 (((occK d e k : Nat) : Int)))) W9 (a9.eval (.tmp 3)) := by rw [ho9 3 rfl]; exact (Is.st _) _ _ _ hx9 g3
    replace g4 : (Is (.int .i64 (((k : Nat) : Int)))) W9 (a9.eval (.tmp 4)) := by rw [ho9 4 rfl]; exact (Is.st _) _ _ _ hx9 g4
    replace hW : Ext w W9 := hW.trans hx9
    replace hd9 : a9.defers = [] := hd9.trans hdL
    clear hx9 ho9
    refine cond_t g25 ?_
    refine wp_skip ?_
    refine then_normal ?_
    refine wp_seq ?_
    refine wp_block ?_
    refine (oc7 d e k c _ _ _ hs9 hi ih g1 g3 g4 fun a10 W10 hx10 ho10 hs10 hd10 g3 => ?_)
    replace g1 : (VarP 7 (ExD (d + 1) e)) W10 (a10.eval (.tmp 1)) := by rw [ho10 1 rfl]; exact (VarP.st ExD.st) _ _ _ hx10 g1
    replace g4 : (Is (.int .i64 (((k : Nat) : Int)))) W10 (a10.eval (.tmp 4)) := by rw [ho10 4 rfl]; exact (Is.st _) _ _ _ hx10 g4
    replace hW : Ext w W10 := hW.trans hx10
    replace hd10 : a10.defers = [] := hd10.trans hd9
    clear hx10 ho10
    refine in_normal (then_normal ?_)
    refine (oc6 d e k _ _ _ hs10 hkl hlen g4 fun a11 W11 hx11 ho11 hs11 hd11 g4 => ?_)
    replace g1 : (VarP 7 (ExD (d + 1) e)) W11 (a11.eval (.tmp 1)) := by rw [ho11 1 rfl]; exact (VarP.st ExD.st) _ _ _ hx11 g1
    replace g3 : (Is (.int .i64 (((occK d e (k + 1) : Nat) : Int)))) W11 (a11.eval (.tmp 3)) := by rw [ho11 3 rfl]; exact (Is.st _) _ _ _ hx11 g3
    replace hW : Ext w W11 := hW.trans hx11
    replace hd11 : a11.defers = [] := hd11.trans hd10
    clear hx11 ho11
    refine then_normal ⟨⟨k + 1, hkl, hW, hs11, hd11, g1, g3, g4⟩, ?_⟩
    rw [show a11.eval (.tmp 4) = _ from g4]; simp [intOf]; omega
  · have hke : k = e.l.length := by omega
    refine wp_seq (oc5b d e k _ _ _ hsL hkl g1 g4 fun a12 W12 hx12 ho12 hs12 hd12 g25 => ?_)
    refine then_normal ?_
    replace g3 : (Is (.int .i64 (((occK d e k : Nat) : Int)))) W12 (a12.eval (.tmp 3)) := by rw [ho12 3 rfl]; exact (Is.st _) _ _ _ hx12 g3
    replace hW : Ext w W12 := hW.trans hx12
    replace hd12 : a12.defers = [] := hd12.trans hdL
    clear hx12 ho12
    refine cond_f g25 ?_
    refine wp_exit ?_
    refine then_exit (then_exit (exit_block (then_normal ?_)))
    refine wp_seq (oc8 d e k _ _ _ hs12  g3 fun a13 W13 hx13 ho13 hs13 hd13 g2 => ?_)
    refine then_normal ?_
    replace g3 : (Is (.int .i64 (((occK d e k : Nat) : Int)))) W13 (a13.eval (.tmp 3)) := by rw [ho13 3 rfl]; exact (Is.st _) _ _ _ hx13 g3
    replace g25 : (Is (.bool false)) W13 (a13.eval (.tmp 25)) := by rw [ho13 25 rfl]; exact (Is.st _) _ _ _ hx13 g25
    replace hW : Ext w W13 := hW.trans hx13
    replace hd13 : a13.defers = [] := hd13.trans hd12
    clear hx13 ho13
    refine wp_ret ?_
    show bodyPost Try.prog Try.f18 (fun en w1 => en = .returned (.int .i64 ((occN (d + 1) e : Nat) : Int)) ∧ Ext w w1) .ret _ _
    exact ret_is Try.results18 hd13 g2 ⟨by rw [hke, occK_all], hW⟩
set_option maxRecDepth 100000 in
set_option maxHeartbeats 2000000 in
theorem occ_step (d : Nat) (ih : ∀ (cs : List Value) (e : Ex) (w : World), ExIn w d cs e → Calls Try.prog 18 #[.agg cs.toArray] w fun en w1 => en = .returned (.int .i64 ((occN d e : Nat) : Int)) ∧ Ext w w1) (cs : List Value) (e : Ex) (w : World) (he : ExIn w (d + 1) cs e) : Calls Try.prog 18 #[.agg cs.toArray] w fun en w1 => en = .returned (.int .i64 ((occN (d + 1) e : Nat) : Int)) ∧ Ext w w1 := by
  go_enter Try.func18, Try.ntmps18
  have hW : Ext w w := .refl _
  have hs0 : True := trivial
  have hd0 : ([] : List Deferred) = [] := rfl
  have g0 : (ExD (d + 1) e) w (.agg cs.toArray) := ⟨cs, rfl, he⟩
  refine wp_seq (oc0 d e  _ _ _ rfl  g0 fun a1 W1 hx1 ho1 hs1 hd1 g1 => ?_)
  refine then_normal ?_
  replace hW : Ext w W1 := hW.trans hx1
  replace hd1 : a1.defers = [] := hd1.trans hd0
  clear hx1 ho1
  refine wp_seq (oc1 d e  _ _ _ hs1   fun a2 W2 hx2 ho2 hs2 hd2 g3 => ?_)
  refine then_normal ?_
  replace g1 : (VarP 7 (ExD (d + 1) e)) W2 (a2.eval (.tmp 1)) := by rw [ho2 1 rfl]; exact (VarP.st ExD.st) _ _ _ hx2 g1
  replace hW : Ext w W2 := hW.trans hx2
  replace hd2 : a2.defers = [] := hd2.trans hd1
  clear hx2 ho2
  refine wp_seq ?_
  have key : ∀ (a : Act) (w1 : World), Ext w w1 → a.tmps.size = 37 → a.defers = [] → (VarP 7 (ExD (d + 1) e)) w1 (a.eval (.tmp 1)) → (Is (.int .i64 ((occ0 e : Nat) : Int))) w1 (a.eval (.tmp 3)) → ocTail.wp Try.prog (bodyPost Try.prog Try.f18 (fun en w1 => en = .returned (.int .i64 ((occN (d + 1) e : Nat) : Int)) ∧ Ext w w1)) a w1 := fun a w1 h1 h2 h3 h4 h5 => oc_rest d e w ih a w1 h2 h3 h1 h4 h5
  by_cases hop : e.op = 2
  case neg =>
    have h0c : occ0 e = 0 := by unfold occ0; rw [if_neg (fun h => hop h.1)]
    refine wp_seq (oc2a d e  _ _ _ hs2 hop g1 fun a3 W3 hx3 ho3 hs3 hd3 g17 => ?_)
    refine then_normal ?_
    replace g1 : (VarP 7 (ExD (d + 1) e)) W3 (a3.eval (.tmp 1)) := by rw [ho3 1 rfl]; exact (VarP.st ExD.st) _ _ _ hx3 g1
    replace g3 : (Is (.int .i64 0)) W3 (a3.eval (.tmp 3)) := by rw [ho3 3 rfl]; exact (Is.st _) _ _ _ hx3 g3
    replace hW : Ext w W3 := hW.trans hx3
    replace hd3 : a3.defers = [] := hd3.trans hd2
    clear hx3 ho3
    refine cond_f g17 ?_
    refine wp_skip ?_
    refine then_normal ?_
    rw [← Int.natCast_zero, ← h0c] at g3
    exact key _ _ hW hs3 hd3 g1 g3
  by_cases h0 : 0 ≤ e.n
  case neg =>
    have h0c : occ0 e = 0 := by unfold occ0; rw [if_neg (fun h => h0 h.2.1)]
    refine wp_seq (oc2b d e  _ _ _ hs2 hop h0 g1 fun a4 W4 hx4 ho4 hs4 hd4 g17 => ?_)
    refine then_normal ?_
    replace g1 : (VarP 7 (ExD (d + 1) e)) W4 (a4.eval (.tmp 1)) := by rw [ho4 1 rfl]; exact (VarP.st ExD.st) _ _ _ hx4 g1
    replace g3 : (Is (.int .i64 0)) W4 (a4.eval (.tmp 3)) := by rw [ho4 3 rfl]; exact (Is.st _) _ _ _ hx4 g3
    replace hW : Ext w W4 := hW.trans hx4
    replace hd4 : a4.defers = [] := hd4.trans hd2
    clear hx4 ho4
    refine cond_f g17 ?_
    refine wp_skip ?_
    refine then_normal ?_
    rw [← Int.natCast_zero, ← h0c] at g3
    exact key _ _ hW hs4 hd4 g1 g3
  by_cases h1 : e.n < 16
  case neg =>
    have h0c : occ0 e = 0 := by unfold occ0; rw [if_neg (fun h => h1 h.2.2)]
    refine wp_seq (oc2c d e  _ _ _ hs2 hop h0 h1 g1 fun a5 W5 hx5 ho5 hs5 hd5 g17 => ?_)
    refine then_normal ?_
    replace g1 : (VarP 7 (ExD (d + 1) e)) W5 (a5.eval (.tmp 1)) := by rw [ho5 1 rfl]; exact (VarP.st ExD.st) _ _ _ hx5 g1
    replace g3 : (Is (.int .i64 0)) W5 (a5.eval (.tmp 3)) := by rw [ho5 3 rfl]; exact (Is.st _) _ _ _ hx5 g3
    replace hW : Ext w W5 := hW.trans hx5
    replace hd5 : a5.defers = [] := hd5.trans hd2
    clear hx5 ho5
    refine cond_f g17 ?_
    refine wp_skip ?_
    refine then_normal ?_
    rw [← Int.natCast_zero, ← h0c] at g3
    exact key _ _ hW hs5 hd5 g1 g3
  have h0c : occ0 e = 2 ^ e.n.toNat := by unfold occ0; rw [if_pos ⟨hop, h0, h1⟩]
  refine wp_seq (oc2d d e  _ _ _ hs2 hop h0 h1 g1 fun a6 W6 hx6 ho6 hs6 hd6 g17 => ?_)
  refine then_normal ?_
  replace g1 : (VarP 7 (ExD (d + 1) e)) W6 (a6.eval (.tmp 1)) := by rw [ho6 1 rfl]; exact (VarP.st ExD.st) _ _ _ hx6 g1
  replace g3 : (Is (.int .i64 0)) W6 (a6.eval (.tmp 3)) := by rw [ho6 3 rfl]; exact (Is.st _) _ _ _ hx6 g3
  replace hW : Ext w W6 := hW.trans hx6
  replace hd6 : a6.defers = [] := hd6.trans hd2
  clear hx6 ho6
  refine cond_t g17 ?_
  refine (oc3 d e  _ _ _ hs6 h0 h1 g1 fun a7 W7 hx7 ho7 hs7 hd7 g3 => ?_)
  replace g1 : (VarP 7 (ExD (d + 1) e)) W7 (a7.eval (.tmp 1)) := by rw [ho7 1 rfl]; exact (VarP.st ExD.st) _ _ _ hx7 g1
  replace g17 : (Is (.bool true)) W7 (a7.eval (.tmp 17)) := by rw [ho7 17 rfl]; exact (Is.st _) _ _ _ hx7 g17
  replace hW : Ext w W7 := hW.trans hx7
  replace hd7 : a7.defers = [] := hd7.trans hd6
  clear hx7 ho7
  refine then_normal ?_
  rw [← h0c] at g3
  exact key _ _ hW hs7 hd7 g1 g3
theorem occurs_any : ∀ (d : Nat) (cs : List Value) (e : Ex) (w : World), ExIn w d cs e → Calls Try.prog 18 #[.agg cs.toArray] w fun en w1 => en = .returned (.int .i64 ((occN d e : Nat) : Int)) ∧ Ext w w1 := by
  intro d
  induction d with
  | zero => intro cs e w h; exact h.elim
  | succ d ih => intro cs e w h; exact occ_step d ih cs e w h

end Go.Proofs.Ytophdbbbojnobaa
