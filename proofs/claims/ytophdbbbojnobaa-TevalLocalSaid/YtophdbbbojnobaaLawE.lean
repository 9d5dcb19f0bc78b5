/- TevalLocal: the walk. -/
import Derived.Test.YtophdbbbojnobaaProg
import Derived.Test.YtophdbbbojnobaaLocal
namespace Go.Proofs.Ytophdbbbojnobaa
open Go.RowKit
set_option linter.unusedVariables false

noncomputable def llC0 : Code := ((Try.f5.body.bind (regionOf 0)).getD .skip)
def ll0D : List (Option Tmp) := [some 3, some 4, some 5, some 6]
def ll0P (d : Nat) (e : Ex) (ev eu : Ev)  : List (World → Value → Prop) := [(VarP 7 (ExD d e)), (VarP 17 (Is (.agg ev.cells.toArray))), (VarP 17 (Is (.agg eu.cells.toArray))), (Is (.bool false))]
set_option maxHeartbeats 2000000 in
set_option maxRecDepth 100000 in
theorem ll0 (d : Nat) (e : Ex) (ev eu : Ev) (hv : ev.ok) (hu : eu.ok)  (Q : Exit → Act → World → Prop) (a0 : Act) (W : World) (hsz : a0.tmps.size = 74)  (g0 : (ExD d e) W (a0.eval (.tmp 0))) (g1 : (Is (.agg ev.cells.toArray)) W (a0.eval (.tmp 1))) (g2 : (Is (.agg eu.cells.toArray)) W (a0.eval (.tmp 2)))
    (hQ : ∀ a1 W1, Ext W W1 → (∀ t, ll0D.contains (some t) = false → a1.eval (.tmp t) = a0.eval (.tmp t)) → a1.tmps.size = 74 → a1.defers = a0.defers → (VarP 7 (ExD d e)) W1 (a1.eval (.tmp 3)) → (VarP 17 (Is (.agg ev.cells.toArray))) W1 (a1.eval (.tmp 4)) → (VarP 17 (Is (.agg eu.cells.toArray))) W1 (a1.eval (.tmp 5)) → Q .normal a1 W1) : llC0.wp Try.prog Q a0 W := by
  conv => arg 2; whnf
  refine wp_region_sq 4 ll0D (ll0P d e ev eu ) 74 (by kernel_rfl) hsz ?_ ?_ ?_
  · exact AllSt.cons (VarP.st ExD.st) (AllSt.cons (VarP.st (Is.st _)) (AllSt.cons (VarP.st (Is.st _)) (AllSt.cons (Is.st _) (AllSt.nil))))
  · simp only [List.take_succ_cons, List.take_zero]
    refine ObL.cons trivial (fun v ρ w hx hd S => op_box (n := 7) (p := ExD d e) rfl ExD.st (by obtain ⟨cs, h1, h2⟩ := (show (ExD d e) w (ρ (.tmp 0)) from (S.out rfl (ExD.st _ _ _ hx g0))); exact ⟨cs, h1, h2.len⟩) (S.out rfl (ExD.st _ _ _ hx g0))) ?_
    refine ObL.cons trivial (fun v ρ w hx hd S => op_box (n := 17) (p := Is (.agg ev.cells.toArray)) rfl (Is.st _) ⟨_, (S.out rfl ((Is.st _) _ _ _ hx g1)), by simp [Ev.cells, hv.1]⟩ (S.out rfl ((Is.st _) _ _ _ hx g1))) ?_
    refine ObL.cons trivial (fun v ρ w hx hd S => op_box (n := 17) (p := Is (.agg eu.cells.toArray)) rfl (Is.st _) ⟨_, (S.out rfl ((Is.st _) _ _ _ hx g2)), by simp [Ev.cells, hu.1]⟩ (S.out rfl ((Is.st _) _ _ _ hx g2))) ?_
    refine ObL.cons trivial (fun v ρ w hx hd S => op_move (p := Is (.bool false)) (.inr rfl) (S.c _)) ?_
    exact ObL.nil
  · intro v a1 w hx hPP S hs hdf
    refine wpList_nil ?_
    exact hQ a1 w hx S.o hs hdf (S.dep 0 rfl (hPP 0 (by decide))) (S.dep 1 rfl (hPP 1 (by decide))) (S.dep 2 rfl (hPP 2 (by decide)))

noncomputable def llC1 : Code := ((Try.f5.body.bind (regionOf 1)).getD .skip)
def ll1D : List (Option Tmp) := [some 14, some 15]
def ll1P (d : Nat) (e : Ex) (ev eu : Ev)  : List (World → Value → Prop) := [(Is (.bool true)), (Is (.bool false))]
set_option maxHeartbeats 2000000 in
set_option maxRecDepth 100000 in
theorem ll1 (d : Nat) (e : Ex) (ev eu : Ev) (hv : ev.ok) (hu : eu.ok)  (Q : Exit → Act → World → Prop) (a0 : Act) (W : World) (hsz : a0.tmps.size = 74)  
    (hQ : ∀ a1 W1, Ext W W1 → (∀ t, ll1D.contains (some t) = false → a1.eval (.tmp t) = a0.eval (.tmp t)) → a1.tmps.size = 74 → a1.defers = a0.defers → (Is (.bool false)) W1 (a1.eval (.tmp 15)) → Q .normal a1 W1) : llC1.wp Try.prog Q a0 W := by
  conv => arg 2; whnf
  refine wp_region_sq 2 ll1D (ll1P d e ev eu ) 74 (by kernel_rfl) hsz ?_ ?_ ?_
  · exact AllSt.cons (Is.st _) (AllSt.cons (Is.st _) (AllSt.nil))
  · simp only [List.take_succ_cons, List.take_zero]
    refine ObL.cons trivial (fun v ρ w hx hd S => op_sane rfl S) ?_
    refine ObL.cons trivial (fun v ρ w hx hd S => op_not rfl (S.dep 0 rfl (hd 0 rfl))) ?_
    exact ObL.nil
  · intro v a1 w hx hPP S hs hdf
    refine wpList_nil ?_
    exact hQ a1 w hx S.o hs hdf (S.dep 1 rfl (hPP 1 (by decide)))

noncomputable def llC3 : Code := ((Try.f5.body.bind (regionOf 3)).getD .skip)
def ll3aD : List (Option Tmp) := [some 16, some 17, some 18]
def ll3aP (d : Nat) (e : Ex) (ev eu : Ev)  : List (World → Value → Prop) := [(ExD d e), (Is (.bool false)), (Is (.bool true))]
set_option maxHeartbeats 2000000 in
set_option maxRecDepth 100000 in
theorem ll3a (d : Nat) (e : Ex) (ev eu : Ev) (hv : ev.ok) (hu : eu.ok)  (Q : Exit → Act → World → Prop) (a0 : Act) (W : World) (hsz : a0.tmps.size = 74) (hfew : fewF e = false) (g3 : (VarP 7 (ExD d e)) W (a0.eval (.tmp 3)))
    (hQ : ∀ a1 W1, Ext W W1 → (∀ t, ll3aD.contains (some t) = false → a1.eval (.tmp t) = a0.eval (.tmp t)) → a1.tmps.size = 74 → a1.defers = a0.defers → (Is (.bool true)) W1 (a1.eval (.tmp 18)) → Q .normal a1 W1) : llC3.wp Try.prog Q a0 W := by
  conv => arg 2; whnf
  refine wp_region_sq 3 ll3aD (ll3aP d e ev eu ) 74 (by kernel_rfl) hsz ?_ ?_ ?_
  · exact AllSt.cons ExD.st (AllSt.cons (Is.st _) (AllSt.cons (Is.st _) (AllSt.nil)))
  · simp only [List.take_succ_cons, List.take_zero]
    refine ObL.cons trivial (fun v ρ w hx hd S => op_loadV _ _ rfl _ Try.underlying26 rfl info_expr (S.out rfl ((VarP.st ExD.st) _ _ _ hx g3))) ?_
    refine ObL.cons trivial (fun v ρ w hx hd S => (op_few (e := e) rfl S (((show (ExD d e) w (ρ (.tmp 16)) from (S.dep 0 rfl (hd 0 rfl)))).elim fun cs h => ⟨cs, h.1, d, h.2⟩)).mono fun u w1 hu => ⟨hu.1, hu.2.trans (congrArg Value.bool hfew)⟩) ?_
    refine ObL.cons trivial (fun v ρ w hx hd S => op_not rfl (S.dep 1 rfl (hd 1 rfl))) ?_
    exact ObL.nil
  · intro v a1 w hx hPP S hs hdf
    refine wpList_nil ?_
    exact hQ a1 w hx S.o hs hdf (S.dep 2 rfl (hPP 2 (by decide)))

noncomputable def llC4 : Code := ((Try.f5.body.bind (regionOf 4)).getD .skip)
def ll4D : List (Option Tmp) := [some 6]
def ll4P (d : Nat) (e : Ex) (ev eu : Ev)  : List (World → Value → Prop) := [(Is (.bool true))]
set_option maxHeartbeats 2000000 in
set_option maxRecDepth 100000 in
theorem ll4 (d : Nat) (e : Ex) (ev eu : Ev) (hv : ev.ok) (hu : eu.ok)  (Q : Exit → Act → World → Prop) (a0 : Act) (W : World) (hsz : a0.tmps.size = 74)  
    (hQ : ∀ a1 W1, Ext W W1 → (∀ t, ll4D.contains (some t) = false → a1.eval (.tmp t) = a0.eval (.tmp t)) → a1.tmps.size = 74 → a1.defers = a0.defers → (Is (.bool true)) W1 (a1.eval (.tmp 6)) → Q .normal a1 W1) : llC4.wp Try.prog Q a0 W := by
  conv => arg 2; whnf
  refine wp_region_sq 1 ll4D (ll4P d e ev eu ) 74 (by kernel_rfl) hsz ?_ ?_ ?_
  · exact AllSt.cons (Is.st _) (AllSt.nil)
  · simp only [List.take_succ_cons, List.take_zero]
    refine ObL.cons trivial (fun v ρ w hx hd S => op_move (p := Is (.bool true)) (.inr rfl) (S.c _)) ?_
    exact ObL.nil
  · intro v a1 w hx hPP S hs hdf
    refine wpList_nil ?_
    exact hQ a1 w hx S.o hs hdf (S.dep 0 rfl (hPP 0 (by decide)))

def ll3bD : List (Option Tmp) := [some 16, some 17, some 18]
def ll3bP (d : Nat) (e : Ex) (ev eu : Ev)  : List (World → Value → Prop) := [(ExD d e), (Is (.bool true)), (Is (.bool false))]
set_option maxHeartbeats 2000000 in
set_option maxRecDepth 100000 in
theorem ll3b (d : Nat) (e : Ex) (ev eu : Ev) (hv : ev.ok) (hu : eu.ok)  (Q : Exit → Act → World → Prop) (a0 : Act) (W : World) (hsz : a0.tmps.size = 74) (hfew : fewF e = true) (g3 : (VarP 7 (ExD d e)) W (a0.eval (.tmp 3)))
    (hQ : ∀ a1 W1, Ext W W1 → (∀ t, ll3bD.contains (some t) = false → a1.eval (.tmp t) = a0.eval (.tmp t)) → a1.tmps.size = 74 → a1.defers = a0.defers → (Is (.bool false)) W1 (a1.eval (.tmp 18)) → Q .normal a1 W1) : llC3.wp Try.prog Q a0 W := by
  conv => arg 2; whnf
  refine wp_region_sq 3 ll3bD (ll3bP d e ev eu ) 74 (by kernel_rfl) hsz ?_ ?_ ?_
  · exact AllSt.cons ExD.st (AllSt.cons (Is.st _) (AllSt.cons (Is.st _) (AllSt.nil)))
  · simp only [List.take_succ_cons, List.take_zero]
    refine ObL.cons trivial (fun v ρ w hx hd S => op_loadV _ _ rfl _ Try.underlying26 rfl info_expr (S.out rfl ((VarP.st ExD.st) _ _ _ hx g3))) ?_
    refine ObL.cons trivial (fun v ρ w hx hd S => (op_few (e := e) rfl S (((show (ExD d e) w (ρ (.tmp 16)) from (S.dep 0 rfl (hd 0 rfl)))).elim fun cs h => ⟨cs, h.1, d, h.2⟩)).mono fun u w1 hu => ⟨hu.1, hu.2.trans (congrArg Value.bool hfew)⟩) ?_
    refine ObL.cons trivial (fun v ρ w hx hd S => op_not rfl (S.dep 1 rfl (hd 1 rfl))) ?_
    exact ObL.nil
  · intro v a1 w hx hPP S hs hdf
    refine wpList_nil ?_
    exact hQ a1 w hx S.o hs hdf (S.dep 2 rfl (hPP 2 (by decide)))

noncomputable def llC5 : Code := ((Try.f5.body.bind (regionOf 5)).getD .skip)
def ll5D : List (Option Tmp) := [some 19, some 20, some 7]
def ll5P (d : Nat) (e : Ex) (ev eu : Ev)  : List (World → Value → Prop) := [(ExD d e), (Is (.int .i64 (((occN d e : Nat) : Int)))), (Is (.int .i64 (((occN d e : Nat) : Int))))]
set_option maxHeartbeats 2000000 in
set_option maxRecDepth 100000 in
theorem ll5 (d : Nat) (e : Ex) (ev eu : Ev) (hv : ev.ok) (hu : eu.ok)  (Q : Exit → Act → World → Prop) (a0 : Act) (W : World) (hsz : a0.tmps.size = 74)  (g3 : (VarP 7 (ExD d e)) W (a0.eval (.tmp 3)))
    (hQ : ∀ a1 W1, Ext W W1 → (∀ t, ll5D.contains (some t) = false → a1.eval (.tmp t) = a0.eval (.tmp t)) → a1.tmps.size = 74 → a1.defers = a0.defers → (Is (.int .i64 (((occN d e : Nat) : Int)))) W1 (a1.eval (.tmp 7)) → Q .normal a1 W1) : llC5.wp Try.prog Q a0 W := by
  conv => arg 2; whnf
  refine wp_region_sq 3 ll5D (ll5P d e ev eu ) 74 (by kernel_rfl) hsz ?_ ?_ ?_
  · exact AllSt.cons ExD.st (AllSt.cons (Is.st _) (AllSt.cons (Is.st _) (AllSt.nil)))
  · simp only [List.take_succ_cons, List.take_zero]
    refine ObL.cons trivial (fun v ρ w hx hd S => op_loadV _ _ rfl _ Try.underlying26 rfl info_expr (S.out rfl ((VarP.st ExD.st) _ _ _ hx g3))) ?_
    refine ObL.cons trivial (fun v ρ w hx hd S => (by obtain ⟨cs, h1, h2⟩ := (show (ExD d e) w (ρ (.tmp 19)) from (S.dep 0 rfl (hd 0 rfl))); exact call_occurs rfl S h1 (occurs_any d cs e w h2) (by rintro en w1 ⟨rfl, h⟩; exact ⟨_, rfl, h, rfl⟩))) ?_
    refine ObL.cons trivial (fun v ρ w hx hd S => op_move (p := Is (.int .i64 (((occN d e : Nat) : Int)))) (.inr rfl) (S.dep 1 rfl (hd 1 rfl))) ?_
    exact ObL.nil
  · intro v a1 w hx hPP S hs hdf
    refine wpList_nil ?_
    exact hQ a1 w hx S.o hs hdf (S.dep 2 rfl (hPP 2 (by decide)))

noncomputable def llC6 : Code := ((Try.f5.body.bind (regionOf 6)).getD .skip)
def ll6D : List (Option Tmp) := [some 21, some 22, some 23, some 24, some 25, some 26, some 27, some 28, some 29, some 30, some 8]
def ll6P (d : Nat) (e : Ex) (ev eu : Ev)  (B : Nat) : List (World → Value → Prop) := [(CellP (Is (.int .i64 ev.has))), (Is (.int .i64 ev.has)), (Is (.int .i64 (((occN d e : Nat) : Int)))), (Is (.int .i64 ((bits .and .i64 ev.has ((occN d e : Nat) : Int))))), (CellP (Is (.int .i64 eu.has))), (Is (.int .i64 eu.has)), (Is (.int .i64 (((occN d e : Nat) : Int)))), (Is (.int .i64 ((bits .andNot .i64 eu.has ((occN d e : Nat) : Int))))), (Is (.int .i64 ((bits .or .i64 (bits .and .i64 ev.has ((occN d e : Nat) : Int)) (bits .andNot .i64 eu.has ((occN d e : Nat) : Int)))))), (Is (.agg (Ev.cells ⟨mixH (occN d e) ev.has eu.has, mixV (occN d e) ev.v eu.v 0⟩).toArray)), (FreshV B [.int .i64 0, .int .i64 0, .int .i64 0, .int .i64 0, .int .i64 0, .int .i64 0, .int .i64 0, .int .i64 0, .int .i64 0, .int .i64 0, .int .i64 0, .int .i64 0, .int .i64 0, .int .i64 0, .int .i64 0, .int .i64 0, .int .i64 0] 29)]
set_option maxHeartbeats 2000000 in
set_option maxRecDepth 100000 in
theorem ll6 (d : Nat) (e : Ex) (ev eu : Ev) (hv : ev.ok) (hu : eu.ok)  (Q : Exit → Act → World → Prop) (a0 : Act) (W : World) (hsz : a0.tmps.size = 74)  (g4 : (VarP 17 (Is (.agg ev.cells.toArray))) W (a0.eval (.tmp 4))) (g5 : (VarP 17 (Is (.agg eu.cells.toArray))) W (a0.eval (.tmp 5))) (g7 : (Is (.int .i64 (((occN d e : Nat) : Int)))) W (a0.eval (.tmp 7)))
    (hQ : ∀ a1 W1, Ext W W1 → (∀ t, ll6D.contains (some t) = false → a1.eval (.tmp t) = a0.eval (.tmp t)) → a1.tmps.size = 74 → a1.defers = a0.defers → ∀ X, W.heap.size ≤ X → a1.eval (.tmp 8) = .pointer (some ⟨X, 0, none⟩) → W1.there X 0 17 → W1.rangeAt X 0 (Ev.cells ⟨mixH (occN d e) ev.has eu.has, mixV (occN d e) ev.v eu.v 0⟩) → Q .normal a1 W1) : llC6.wp Try.prog Q a0 W := by
  conv => arg 2; whnf
  refine wp_region_sq 11 ll6D (ll6P d e ev eu  W.heap.size) 74 (by kernel_rfl) hsz ?_ ?_ ?_
  · exact AllSt.cons (CellP.st (Is.st _)) (AllSt.cons (Is.st _) (AllSt.cons (Is.st _) (AllSt.cons (Is.st _) (AllSt.cons (CellP.st (Is.st _)) (AllSt.cons (Is.st _) (AllSt.cons (Is.st _) (AllSt.cons (Is.st _) (AllSt.cons (Is.st _) (AllSt.cons (Is.st _) (AllSt.cons FreshV.st (AllSt.nil)))))))))))
  · simp only [List.take_succ_cons, List.take_zero]
    refine ObL.cons trivial (fun v ρ w hx hd S => op_envHas rfl (VarP.loc (S.out rfl ((VarP.st (Is.st _)) _ _ _ hx g4)))) ?_
    refine ObL.cons trivial (fun v ρ w hx hd S => op_loadInt rfl (S.dep 0 rfl (hd 0 rfl))) ?_
    refine ObL.cons trivial (fun v ρ w hx hd S => op_move (p := Is (.int .i64 (((occN d e : Nat) : Int)))) (.inl rfl) (S.out rfl ((Is.st _) _ _ _ hx g7))) ?_
    refine ObL.cons trivial (fun v ρ w hx hd S => op_bitI .and (.inl rfl) rfl (S.dep 1 rfl (hd 1 rfl)) (S.dep 2 rfl (hd 2 rfl))) ?_
    refine ObL.cons trivial (fun v ρ w hx hd S => op_envHas rfl (VarP.loc (S.out rfl ((VarP.st (Is.st _)) _ _ _ hx g5)))) ?_
    refine ObL.cons trivial (fun v ρ w hx hd S => op_loadInt rfl (S.dep 4 rfl (hd 4 rfl))) ?_
    refine ObL.cons trivial (fun v ρ w hx hd S => op_move (p := Is (.int .i64 (((occN d e : Nat) : Int)))) (.inl rfl) (S.out rfl ((Is.st _) _ _ _ hx g7))) ?_
    refine ObL.cons trivial (fun v ρ w hx hd S => op_bitI .andNot (.inr (.inr rfl)) rfl (S.dep 5 rfl (hd 5 rfl)) (S.dep 6 rfl (hd 6 rfl))) ?_
    refine ObL.cons trivial (fun v ρ w hx hd S => op_bitI .or (.inr (.inl rfl)) rfl (S.dep 3 rfl (hd 3 rfl)) (S.dep 7 rfl (hd 7 rfl))) ?_
    refine ObL.cons trivial (fun v ρ w hx hd S => op_envBuild (H := mixH (occN d e) ev.has eu.has) rfl S (S.dep 8 rfl (hd 8 rfl))) ?_
    refine ObL.cons trivial (fun v ρ w hx hd S => op_alloc [.int .i64 0, .int .i64 0, .int .i64 0, .int .i64 0, .int .i64 0, .int .i64 0, .int .i64 0, .int .i64 0, .int .i64 0, .int .i64 0, .int .i64 0, .int .i64 0, .int .i64 0, .int .i64 0, .int .i64 0, .int .i64 0, .int .i64 0] (by clear hd S; go_simp) hx) ?_
    exact ObL.nil
  · intro v a1 w hx hPP S hs hdf
    refine wpList_plain rfl fun K hK => ?_
    obtain ⟨X, ex, hX, hX2, hX3⟩ : FreshV W.heap.size _ _ w _ := S.dep 10 rfl (hPP 10 (by decide))
    have er : a1.eval (.tmp 30) = .agg (Ev.cells ⟨mixH (occN d e) ev.has eu.has, mixV (occN d e) ev.v eu.v 0⟩).toArray := S.dep (w := w) (p := Is (.agg (Ev.cells ⟨mixH (occN d e) ev.has eu.has, mixV (occN d e) ev.v eu.v 0⟩).toArray)) 9 rfl (hPP 9 (by decide))
    have ht : w.there X 0 17 := there_of (cs := [.int .i64 0, .int .i64 0, .int .i64 0, .int .i64 0, .int .i64 0, .int .i64 0, .int .i64 0, .int .i64 0, .int .i64 0, .int .i64 0, .int .i64 0, .int .i64 0, .int .i64 0, .int .i64 0, .int .i64 0, .int .i64 0, .int .i64 0]) hX3
    refine wp_store_mid _ _ _ rfl X 0 _ ex er (by simpa [Ev.cells, mixV] using ht) (by rw [show (Ev.cells ⟨mixH (occN d e) ev.has eu.has, mixV (occN d e) ev.v eu.v 0⟩).toArray.size = 17 by simp [Ev.cells, mixV]]; exact info_env) env_one ?_
    refine hK _ _ (wpList_nil ?_)
    exact hQ a1 _ (setCells_ext hX _ _ _ hx) S.o hs hdf X hX ex (World.there_setCells ht X 0 _) (World.rangeAt_setCells_same w X 0 _ (by simpa [Ev.cells, mixV] using ht))

noncomputable def llC7 : Code := ((Try.f5.body.bind (regionOf 7)).getD .skip)
def ll7D : List (Option Tmp) := [some 9]
def ll7P (d : Nat) (e : Ex) (ev eu : Ev) (X : Nat) : List (World → Value → Prop) := [(Is (.int .i64 0))]
set_option maxHeartbeats 2000000 in
set_option maxRecDepth 100000 in
theorem ll7 (d : Nat) (e : Ex) (ev eu : Ev) (hv : ev.ok) (hu : eu.ok) (X : Nat) (Q : Exit → Act → World → Prop) (a0 : Act) (W : World) (hsz : a0.tmps.size = 74)  
    (hQ : ∀ a1 W1, Ext W W1 → (∀ t, ll7D.contains (some t) = false → a1.eval (.tmp t) = a0.eval (.tmp t)) → a1.tmps.size = 74 → a1.defers = a0.defers → (Is (.int .i64 0)) W1 (a1.eval (.tmp 9)) → Q .normal a1 W1) : llC7.wp Try.prog Q a0 W := by
  conv => arg 2; whnf
  refine wp_region_sq 1 ll7D (ll7P d e ev eu X) 74 (by kernel_rfl) hsz ?_ ?_ ?_
  · exact AllSt.cons (Is.st _) (AllSt.nil)
  · simp only [List.take_succ_cons, List.take_zero]
    refine ObL.cons trivial (fun v ρ w hx hd S => op_move (p := Is (.int .i64 0)) (.inr rfl) (S.c _)) ?_
    exact ObL.nil
  · intro v a1 w hx hPP S hs hdf
    refine wpList_nil ?_
    exact hQ a1 w hx S.o hs hdf (S.dep 0 rfl (hPP 0 (by decide)))

noncomputable def llC8 : Code := ((Try.f5.body.bind (regionOf 8)).getD .skip)
def ll8aD : List (Option Tmp) := [some 31, some 32]
def ll8aP (d : Nat) (e : Ex) (ev eu : Ev) (X k : Nat) : List (World → Value → Prop) := [(Is (.int .i64 (((k : Nat) : Int)))), (Is (.bool true))]
set_option maxHeartbeats 2000000 in
set_option maxRecDepth 100000 in
theorem ll8a (d : Nat) (e : Ex) (ev eu : Ev) (hv : ev.ok) (hu : eu.ok) (X k : Nat) (Q : Exit → Act → World → Prop) (a0 : Act) (W : World) (hsz : a0.tmps.size = 74) (hkl : k < 16) (g9 : (Is (.int .i64 (((k : Nat) : Int)))) W (a0.eval (.tmp 9)))
    (hQ : ∀ a1 W1, Ext W W1 → (∀ t, ll8aD.contains (some t) = false → a1.eval (.tmp t) = a0.eval (.tmp t)) → a1.tmps.size = 74 → a1.defers = a0.defers → (Is (.bool true)) W1 (a1.eval (.tmp 32)) → Q .normal a1 W1) : llC8.wp Try.prog Q a0 W := by
  conv => arg 2; whnf
  refine wp_region_sq 2 ll8aD (ll8aP d e ev eu X k) 74 (by kernel_rfl) hsz ?_ ?_ ?_
  · exact AllSt.cons (Is.st _) (AllSt.cons (Is.st _) (AllSt.nil))
  · simp only [List.take_succ_cons, List.take_zero]
    refine ObL.cons trivial (fun v ρ w hx hd S => op_move (p := Is (.int .i64 (((k : Nat) : Int)))) (.inl rfl) (S.out rfl ((Is.st _) _ _ _ hx g9))) ?_
    refine ObL.cons trivial (fun v ρ w hx hd S => (op_lss rfl (S.dep 0 rfl (hd 0 rfl)) (S.c _)).mono fun u w1 hu => ⟨hu.1, hu.2.trans (congrArg Value.bool (decide_eq_true (by omega)))⟩) ?_
    exact ObL.nil
  · intro v a1 w hx hPP S hs hdf
    refine wpList_nil ?_
    exact hQ a1 w hx S.o hs hdf (S.dep 1 rfl (hPP 1 (by decide)))

noncomputable def llC10 : Code := ((Try.f5.body.bind (regionOf 10)).getD .skip)
def ll10D : List (Option Tmp) := [some 35, some 36, some 37, some 38, some 39, some 40, some 41]
def ll10P (d : Nat) (e : Ex) (ev eu : Ev) (X k : Nat) (B : Nat) : List (World → Value → Prop) := [(Is (.int .i64 (((k : Nat) : Int)))), (Is (.int .i64 (((k : Nat) : Int)))), (VP eu), (CellP (Is (.int .i64 ((eu.v.getD k 0))))), (Is (.int .i64 ((eu.v.getD k 0)))), (Is (.pointer (some ⟨X, 1, none⟩))), (Is (.pointer (some ⟨X, 1 + k, none⟩)))]
set_option maxHeartbeats 2000000 in
set_option maxRecDepth 100000 in
theorem ll10 (d : Nat) (e : Ex) (ev eu : Ev) (hv : ev.ok) (hu : eu.ok) (X k : Nat) (Q : Exit → Act → World → Prop) (a0 : Act) (W : World) (hsz : a0.tmps.size = 74) (Wb : World) (hb : Ext Wb W) (hX : Wb.heap.size ≤ X) (L : List Int) (hL : L.length = 16) (hkl : k < 16) (ht : W.there X 0 17) (hr : W.rangeAt X 0 (Ev.cells ⟨mixH (occN d e) ev.has eu.has, L⟩)) (g5 : (VarP 17 (Is (.agg eu.cells.toArray))) W (a0.eval (.tmp 5))) (g8 : (Is (.pointer (some ⟨X, 0, none⟩))) W (a0.eval (.tmp 8))) (g9 : (Is (.int .i64 (((k : Nat) : Int)))) W (a0.eval (.tmp 9)))
    (hQ : ∀ a1 W1, Ext Wb W1 → (∀ t, ll10D.contains (some t) = false → a1.eval (.tmp t) = a0.eval (.tmp t)) → a1.tmps.size = 74 → a1.defers = a0.defers → W1.there X 0 17 → W1.rangeAt X 0 (Ev.cells ⟨mixH (occN d e) ev.has eu.has, L.set k (eu.v.getD k 0)⟩) → Q .normal a1 W1) : llC10.wp Try.prog Q a0 W := by
  conv => arg 2; whnf
  refine wp_region_sq2 7 ll10D (ll10P d e ev eu X k W.heap.size) 74 (by decide) (by kernel_rfl) hsz ?_ ?_ ?_
  · exact AllSt.cons (Is.st _) (AllSt.cons (Is.st _) (AllSt.cons VP.st (AllSt.cons (CellP.st (Is.st _)) (AllSt.cons (Is.st _) (AllSt.cons (Is.st _) (AllSt.cons (Is.st _) (AllSt.nil)))))))
  · simp only [List.take_succ_cons, List.take_zero]
    refine ObL.cons trivial (fun v ρ w hx hd S => op_move (p := Is (.int .i64 (((k : Nat) : Int)))) (.inl rfl) (S.out rfl ((Is.st _) _ _ _ hx g9))) ?_
    refine ObL.cons trivial (fun v ρ w hx hd S => op_move (p := Is (.int .i64 (((k : Nat) : Int)))) (.inl rfl) (S.out rfl ((Is.st _) _ _ _ hx g9))) ?_
    refine ObL.cons trivial (fun v ρ w hx hd S => op_envV hu rfl (VarP.loc (S.out rfl ((VarP.st (Is.st _)) _ _ _ hx g5)))) ?_
    refine ObL.cons trivial (fun v ρ w hx hd S => op_envAt hkl rfl (S.dep 2 rfl (hd 2 rfl)) (S.dep 1 rfl (hd 1 rfl))) ?_
    refine ObL.cons trivial (fun v ρ w hx hd S => op_loadInt rfl (S.dep 3 rfl (hd 3 rfl))) ?_
    refine ObL.cons trivial (fun v ρ w hx hd S => op_ptrV rfl (S.out rfl ((Is.st _) _ _ _ hx g8))) ?_
    refine ObL.cons trivial (fun v ρ w hx hd S => op_ptrAt hkl rfl (S.dep 5 rfl (hd 5 rfl)) (S.dep 0 rfl (hd 0 rfl))) ?_
    exact ObL.nil
  · intro v a1 w hx hPP S hs hdf
    refine wpList_plain rfl fun K hK => ?_
    have hlt : X < W.heap.size := by have h := ht 0 (by decide); exact block_lt_of_cell (Option.isSome_iff_exists.1 h.1).choose_spec
    have hp : a1.eval (.tmp 41) = .pointer (some ⟨X, 1 + k, none⟩) := S.dep (w := w) (p := Is (.pointer (some ⟨X, 1 + k, none⟩))) 6 rfl (hPP 6 (by decide))
    have hn : a1.eval (.tmp 39) = .int .i64 (eu.v.getD k 0) := S.dep (w := w) (p := Is (.int .i64 (eu.v.getD k 0))) 4 rfl (hPP 4 (by decide))
    have ht2 : w.there X 0 17 := fun j hj => by have h := ht j hj; exact ⟨by rw [hx.cell_eq hlt]; exact h.1, by rw [hx.frozen_eq hlt]; exact h.2⟩
    have h17 : (Ev.cells ⟨mixH (occN d e) ev.has eu.has, L⟩).length = 17 := by simp [Ev.cells, hL]
    refine wp_store_cell rfl hp hn (by have := (ht2 (1 + k) (by omega)).1; rwa [Nat.zero_add] at this) (by have := (ht2 (1 + k) (by omega)).2; rwa [Nat.zero_add] at this) ?_
    refine hK _ _ (wpList_nil ?_)
    refine hQ a1 _ ((hb.trans hx).setCell (p := ⟨X, 1 + k, none⟩) hX _) S.o hs hdf (World.there_setCells ht2 X (1 + k) [_]) ?_
    rw [← set_env hL hkl]
    exact range_set (by rw [h17]; exact ht2) (hx.range hr) (by rw [h17]; omega)

noncomputable def llC11 : Code := ((Try.f5.body.bind (regionOf 11)).getD .skip)
def ll11aD : List (Option Tmp) := [some 42, some 43, some 44, some 45, some 46]
def ll11aP (d : Nat) (e : Ex) (ev eu : Ev) (X k : Nat) : List (World → Value → Prop) := [(Is (.int .i64 (((occN d e : Nat) : Int)))), (Is (.int .i64 (((k : Nat) : Int)))), (Is (.int .i64 (((occN d e / 2 ^ k : Nat) : Int)))), (Is (.int .i64 ((bits .and .i64 ((occN d e / 2 ^ k : Nat) : Int) 1)))), (Is (.bool false))]
set_option maxHeartbeats 2000000 in
set_option maxRecDepth 100000 in
theorem ll11a (d : Nat) (e : Ex) (ev eu : Ev) (hv : ev.ok) (hu : eu.ok) (X k : Nat) (Q : Exit → Act → World → Prop) (a0 : Act) (W : World) (hsz : a0.tmps.size = 74) (hkl : k < 16) (hbit : (occN d e).testBit k = false) (g7 : (Is (.int .i64 (((occN d e : Nat) : Int)))) W (a0.eval (.tmp 7))) (g9 : (Is (.int .i64 (((k : Nat) : Int)))) W (a0.eval (.tmp 9)))
    (hQ : ∀ a1 W1, Ext W W1 → (∀ t, ll11aD.contains (some t) = false → a1.eval (.tmp t) = a0.eval (.tmp t)) → a1.tmps.size = 74 → a1.defers = a0.defers → (Is (.bool false)) W1 (a1.eval (.tmp 46)) → Q .normal a1 W1) : llC11.wp Try.prog Q a0 W := by
  conv => arg 2; whnf
  refine wp_region_sq 5 ll11aD (ll11aP d e ev eu X k) 74 (by kernel_rfl) hsz ?_ ?_ ?_
  · exact AllSt.cons (Is.st _) (AllSt.cons (Is.st _) (AllSt.cons (Is.st _) (AllSt.cons (Is.st _) (AllSt.cons (Is.st _) (AllSt.nil)))))
  · simp only [List.take_succ_cons, List.take_zero]
    refine ObL.cons trivial (fun v ρ w hx hd S => op_move (p := Is (.int .i64 (((occN d e : Nat) : Int)))) (.inl rfl) (S.out rfl ((Is.st _) _ _ _ hx g7))) ?_
    refine ObL.cons trivial (fun v ρ w hx hd S => op_move (p := Is (.int .i64 (((k : Nat) : Int)))) (.inl rfl) (S.out rfl ((Is.st _) _ _ _ hx g9))) ?_
    refine ObL.cons trivial (fun v ρ w hx hd S => op_shrN (occN_lt d e) hkl rfl (S.dep 0 rfl (hd 0 rfl)) (S.dep 1 rfl (hd 1 rfl))) ?_
    refine ObL.cons trivial (fun v ρ w hx hd S => op_bitI .and (.inl rfl) rfl (S.dep 2 rfl (hd 2 rfl)) (S.c _)) ?_
    refine ObL.cons trivial (fun v ρ w hx hd S => (op_eql rfl (S.dep 3 rfl (hd 3 rfl)) (S.c _)).mono fun u w1 hu => ⟨hu.1, hu.2.trans (congrArg Value.bool (by rw [and_one, show ((((occN d e / 2 ^ k : Nat) : Int) % 2 == 1) = (occN d e).testBit k) from by rw [Nat.testBit_eq_decide_div_mod_eq, Bool.eq_iff_iff, beq_iff_eq, decide_eq_true_eq]; omega]; exact hbit))⟩) ?_
    exact ObL.nil
  · intro v a1 w hx hPP S hs hdf
    refine wpList_nil ?_
    exact hQ a1 w hx S.o hs hdf (S.dep 4 rfl (hPP 4 (by decide)))

noncomputable def llC9 : Code := ((Try.f5.body.bind (regionOf 9)).getD .skip)
def ll9E : List (Option Tmp) := [some 33, some 34]
def ll9D : List (Option Tmp) := ll9E ++ [some 9]
def ll9P (d : Nat) (e : Ex) (ev eu : Ev) (X k : Nat) : List (World → Value → Prop) := [(Is (.int .i64 (((k : Nat) : Int)))), (Is (.int .i64 (((k + 1 : Nat) : Int))))]
set_option maxHeartbeats 2000000 in
set_option maxRecDepth 100000 in
theorem ll9 (d : Nat) (e : Ex) (ev eu : Ev) (hv : ev.ok) (hu : eu.ok) (X k : Nat) (Q : Exit → Act → World → Prop) (a0 : Act) (W : World) (hsz : a0.tmps.size = 74) (hkl : k < 16) (g9 : (Is (.int .i64 (((k : Nat) : Int)))) W (a0.eval (.tmp 9)))
    (hQ : ∀ a1 W1, Ext W W1 → (∀ t, ll9D.contains (some t) = false → a1.eval (.tmp t) = a0.eval (.tmp t)) → a1.tmps.size = 74 → a1.defers = a0.defers → (Is (.int .i64 (((k + 1 : Nat) : Int)))) W1 (a1.eval (.tmp 9)) → Q .normal a1 W1) : llC9.wp Try.prog Q a0 W := by
  conv => arg 2; whnf
  refine wp_region_sq 2 ll9E (ll9P d e ev eu X k) 74 (by kernel_rfl) hsz ?_ ?_ ?_
  · exact AllSt.cons (Is.st _) (AllSt.cons (Is.st _) (AllSt.nil))
  · simp only [List.take_succ_cons, List.take_zero]
    refine ObL.cons trivial (fun v ρ w hx hd S => op_move (p := Is (.int .i64 (((k : Nat) : Int)))) (.inl rfl) (S.out rfl ((Is.st _) _ _ _ hx g9))) ?_
    refine ObL.cons trivial (fun v ρ w hx hd S => (op_add rfl (S.dep 0 rfl (hd 0 rfl)) (S.c _) (by constructor <;> omega)).mono fun u w1 hu => ⟨hu.1, hu.2.trans (by simp)⟩) ?_
    exact ObL.nil
  · intro v a1 w hx hPP S hs hdf
    refine wpList_plain rfl fun K hK => ?_
    refine OpPost.wp (op_move (p := Is (.int .i64 (((k + 1 : Nat) : Int)))) (.inr rfl) (S.dep 1 rfl (hPP 1 (by decide)))) fun u w1 hu => ?_
    refine hK _ _ (wpList_nil ?_)
    exact hQ (a1.put (some 9) u) w1 (hx.trans hu.1) (put_others S) (put_size.trans hs) ((by rfl : _ = a1.defers).trans hdf) (by rw [put_same (by rw [hs]; decide)]; exact hu.2)

def ll11bD : List (Option Tmp) := [some 42, some 43, some 44, some 45, some 46]
def ll11bP (d : Nat) (e : Ex) (ev eu : Ev) (X k : Nat) : List (World → Value → Prop) := [(Is (.int .i64 (((occN d e : Nat) : Int)))), (Is (.int .i64 (((k : Nat) : Int)))), (Is (.int .i64 (((occN d e / 2 ^ k : Nat) : Int)))), (Is (.int .i64 ((bits .and .i64 ((occN d e / 2 ^ k : Nat) : Int) 1)))), (Is (.bool true))]
set_option maxHeartbeats 2000000 in
set_option maxRecDepth 100000 in
theorem ll11b (d : Nat) (e : Ex) (ev eu : Ev) (hv : ev.ok) (hu : eu.ok) (X k : Nat) (Q : Exit → Act → World → Prop) (a0 : Act) (W : World) (hsz : a0.tmps.size = 74) (hkl : k < 16) (hbit : (occN d e).testBit k = true) (g7 : (Is (.int .i64 (((occN d e : Nat) : Int)))) W (a0.eval (.tmp 7))) (g9 : (Is (.int .i64 (((k : Nat) : Int)))) W (a0.eval (.tmp 9)))
    (hQ : ∀ a1 W1, Ext W W1 → (∀ t, ll11bD.contains (some t) = false → a1.eval (.tmp t) = a0.eval (.tmp t)) → a1.tmps.size = 74 → a1.defers = a0.defers → (Is (.bool true)) W1 (a1.eval (.tmp 46)) → Q .normal a1 W1) : llC11.wp Try.prog Q a0 W := by
  conv => arg 2; whnf
  refine wp_region_sq 5 ll11bD (ll11bP d e ev eu X k) 74 (by kernel_rfl) hsz ?_ ?_ ?_
  · exact AllSt.cons (Is.st _) (AllSt.cons (Is.st _) (AllSt.cons (Is.st _) (AllSt.cons (Is.st _) (AllSt.cons (Is.st _) (AllSt.nil)))))
  · simp only [List.take_succ_cons, List.take_zero]
    refine ObL.cons trivial (fun v ρ w hx hd S => op_move (p := Is (.int .i64 (((occN d e : Nat) : Int)))) (.inl rfl) (S.out rfl ((Is.st _) _ _ _ hx g7))) ?_
    refine ObL.cons trivial (fun v ρ w hx hd S => op_move (p := Is (.int .i64 (((k : Nat) : Int)))) (.inl rfl) (S.out rfl ((Is.st _) _ _ _ hx g9))) ?_
    refine ObL.cons trivial (fun v ρ w hx hd S => op_shrN (occN_lt d e) hkl rfl (S.dep 0 rfl (hd 0 rfl)) (S.dep 1 rfl (hd 1 rfl))) ?_
    refine ObL.cons trivial (fun v ρ w hx hd S => op_bitI .and (.inl rfl) rfl (S.dep 2 rfl (hd 2 rfl)) (S.c _)) ?_
    refine ObL.cons trivial (fun v ρ w hx hd S => (op_eql rfl (S.dep 3 rfl (hd 3 rfl)) (S.c _)).mono fun u w1 hu => ⟨hu.1, hu.2.trans (congrArg Value.bool (by rw [and_one, show ((((occN d e / 2 ^ k : Nat) : Int) % 2 == 1) = (occN d e).testBit k) from by rw [Nat.testBit_eq_decide_div_mod_eq, Bool.eq_iff_iff, beq_iff_eq, decide_eq_true_eq]; omega]; exact hbit))⟩) ?_
    exact ObL.nil
  · intro v a1 w hx hPP S hs hdf
    refine wpList_nil ?_
    exact hQ a1 w hx S.o hs hdf (S.dep 4 rfl (hPP 4 (by decide)))

noncomputable def llC12 : Code := ((Try.f5.body.bind (regionOf 12)).getD .skip)
def ll12D : List (Option Tmp) := [some 47, some 48, some 49, some 50, some 51, some 52, some 53]
def ll12P (d : Nat) (e : Ex) (ev eu : Ev) (X k : Nat) (B : Nat) : List (World → Value → Prop) := [(Is (.int .i64 (((k : Nat) : Int)))), (Is (.int .i64 (((k : Nat) : Int)))), (VP ev), (CellP (Is (.int .i64 ((ev.v.getD k 0))))), (Is (.int .i64 ((ev.v.getD k 0)))), (Is (.pointer (some ⟨X, 1, none⟩))), (Is (.pointer (some ⟨X, 1 + k, none⟩)))]
set_option maxHeartbeats 2000000 in
set_option maxRecDepth 100000 in
theorem ll12 (d : Nat) (e : Ex) (ev eu : Ev) (hv : ev.ok) (hu : eu.ok) (X k : Nat) (Q : Exit → Act → World → Prop) (a0 : Act) (W : World) (hsz : a0.tmps.size = 74) (Wb : World) (hb : Ext Wb W) (hX : Wb.heap.size ≤ X) (L : List Int) (hL : L.length = 16) (hkl : k < 16) (ht : W.there X 0 17) (hr : W.rangeAt X 0 (Ev.cells ⟨mixH (occN d e) ev.has eu.has, L⟩)) (g4 : (VarP 17 (Is (.agg ev.cells.toArray))) W (a0.eval (.tmp 4))) (g8 : (Is (.pointer (some ⟨X, 0, none⟩))) W (a0.eval (.tmp 8))) (g9 : (Is (.int .i64 (((k : Nat) : Int)))) W (a0.eval (.tmp 9)))
    (hQ : ∀ a1 W1, Ext Wb W1 → (∀ t, ll12D.contains (some t) = false → a1.eval (.tmp t) = a0.eval (.tmp t)) → a1.tmps.size = 74 → a1.defers = a0.defers → W1.there X 0 17 → W1.rangeAt X 0 (Ev.cells ⟨mixH (occN d e) ev.has eu.has, L.set k (ev.v.getD k 0)⟩) → Q .normal a1 W1) : llC12.wp Try.prog Q a0 W := by
  conv => arg 2; whnf
  refine wp_region_sq2 7 ll12D (ll12P d e ev eu X k W.heap.size) 74 (by decide) (by kernel_rfl) hsz ?_ ?_ ?_
  · exact AllSt.cons (Is.st _) (AllSt.cons (Is.st _) (AllSt.cons VP.st (AllSt.cons (CellP.st (Is.st _)) (AllSt.cons (Is.st _) (AllSt.cons (Is.st _) (AllSt.cons (Is.st _) (AllSt.nil)))))))
  · simp only [List.take_succ_cons, List.take_zero]
    refine ObL.cons trivial (fun v ρ w hx hd S => op_move (p := Is (.int .i64 (((k : Nat) : Int)))) (.inl rfl) (S.out rfl ((Is.st _) _ _ _ hx g9))) ?_
    refine ObL.cons trivial (fun v ρ w hx hd S => op_move (p := Is (.int .i64 (((k : Nat) : Int)))) (.inl rfl) (S.out rfl ((Is.st _) _ _ _ hx g9))) ?_
    refine ObL.cons trivial (fun v ρ w hx hd S => op_envV hv rfl (VarP.loc (S.out rfl ((VarP.st (Is.st _)) _ _ _ hx g4)))) ?_
    refine ObL.cons trivial (fun v ρ w hx hd S => op_envAt hkl rfl (S.dep 2 rfl (hd 2 rfl)) (S.dep 1 rfl (hd 1 rfl))) ?_
    refine ObL.cons trivial (fun v ρ w hx hd S => op_loadInt rfl (S.dep 3 rfl (hd 3 rfl))) ?_
    refine ObL.cons trivial (fun v ρ w hx hd S => op_ptrV rfl (S.out rfl ((Is.st _) _ _ _ hx g8))) ?_
    refine ObL.cons trivial (fun v ρ w hx hd S => op_ptrAt hkl rfl (S.dep 5 rfl (hd 5 rfl)) (S.dep 0 rfl (hd 0 rfl))) ?_
    exact ObL.nil
  · intro v a1 w hx hPP S hs hdf
    refine wpList_plain rfl fun K hK => ?_
    have hlt : X < W.heap.size := by have h := ht 0 (by decide); exact block_lt_of_cell (Option.isSome_iff_exists.1 h.1).choose_spec
    have hp : a1.eval (.tmp 53) = .pointer (some ⟨X, 1 + k, none⟩) := S.dep (w := w) (p := Is (.pointer (some ⟨X, 1 + k, none⟩))) 6 rfl (hPP 6 (by decide))
    have hn : a1.eval (.tmp 51) = .int .i64 (ev.v.getD k 0) := S.dep (w := w) (p := Is (.int .i64 (ev.v.getD k 0))) 4 rfl (hPP 4 (by decide))
    have ht2 : w.there X 0 17 := fun j hj => by have h := ht j hj; exact ⟨by rw [hx.cell_eq hlt]; exact h.1, by rw [hx.frozen_eq hlt]; exact h.2⟩
    have h17 : (Ev.cells ⟨mixH (occN d e) ev.has eu.has, L⟩).length = 17 := by simp [Ev.cells, hL]
    refine wp_store_cell rfl hp hn (by have := (ht2 (1 + k) (by omega)).1; rwa [Nat.zero_add] at this) (by have := (ht2 (1 + k) (by omega)).2; rwa [Nat.zero_add] at this) ?_
    refine hK _ _ (wpList_nil ?_)
    refine hQ a1 _ ((hb.trans hx).setCell (p := ⟨X, 1 + k, none⟩) hX _) S.o hs hdf (World.there_setCells ht2 X (1 + k) [_]) ?_
    rw [← set_env hL hkl]
    exact range_set (by rw [h17]; exact ht2) (hx.range hr) (by rw [h17]; omega)

def ll8bD : List (Option Tmp) := [some 31, some 32]
def ll8bP (d : Nat) (e : Ex) (ev eu : Ev) (X : Nat) : List (World → Value → Prop) := [(Is (.int .i64 (((16 : Nat) : Int)))), (Is (.bool false))]
set_option maxHeartbeats 2000000 in
set_option maxRecDepth 100000 in
theorem ll8b (d : Nat) (e : Ex) (ev eu : Ev) (hv : ev.ok) (hu : eu.ok) (X : Nat) (Q : Exit → Act → World → Prop) (a0 : Act) (W : World) (hsz : a0.tmps.size = 74)  (g9 : (Is (.int .i64 (((16 : Nat) : Int)))) W (a0.eval (.tmp 9)))
    (hQ : ∀ a1 W1, Ext W W1 → (∀ t, ll8bD.contains (some t) = false → a1.eval (.tmp t) = a0.eval (.tmp t)) → a1.tmps.size = 74 → a1.defers = a0.defers → (Is (.bool false)) W1 (a1.eval (.tmp 32)) → Q .normal a1 W1) : llC8.wp Try.prog Q a0 W := by
  conv => arg 2; whnf
  refine wp_region_sq 2 ll8bD (ll8bP d e ev eu X) 74 (by kernel_rfl) hsz ?_ ?_ ?_
  · exact AllSt.cons (Is.st _) (AllSt.cons (Is.st _) (AllSt.nil))
  · simp only [List.take_succ_cons, List.take_zero]
    refine ObL.cons trivial (fun v ρ w hx hd S => op_move (p := Is (.int .i64 (((16 : Nat) : Int)))) (.inl rfl) (S.out rfl ((Is.st _) _ _ _ hx g9))) ?_
    refine ObL.cons trivial (fun v ρ w hx hd S => (op_lss rfl (S.dep 0 rfl (hd 0 rfl)) (S.c _)).mono fun u w1 hu => ⟨hu.1, hu.2.trans (congrArg Value.bool (by decide))⟩) ?_
    exact ObL.nil
  · intro v a1 w hx hPP S hs hdf
    refine wpList_nil ?_
    exact hQ a1 w hx S.o hs hdf (S.dep 1 rfl (hPP 1 (by decide)))

noncomputable def llC13 : Code := ((Try.f5.body.bind (regionOf 13)).getD .skip)
def ll13D : List (Option Tmp) := [some 55, some 56, some 57, some 54, some 58, some 59, some 10, some 11]
def ll13P (d : Nat) (e : Ex) (ev eu : Ev)  : List (World → Value → Prop) := [(ExD d e), (Is (.agg ev.cells.toArray)), (Is (.tuple #[.int .i64 ((EvalF e ev).1), .int .i64 ((EvalF e ev).2)])), (Is (.tuple #[.int .i64 ((EvalF e ev).1), .int .i64 ((EvalF e ev).2)])), (Is (.int .i64 ((EvalF e ev).1))), (Is (.int .i64 ((EvalF e ev).2))), (Is (.int .i64 ((EvalF e ev).1))), (Is (.int .i64 ((EvalF e ev).2)))]
set_option maxHeartbeats 2000000 in
set_option maxRecDepth 100000 in
theorem ll13 (d : Nat) (e : Ex) (ev eu : Ev) (hv : ev.ok) (hu : eu.ok)  (Q : Exit → Act → World → Prop) (a0 : Act) (W : World) (hsz : a0.tmps.size = 74)  (g3 : (VarP 7 (ExD d e)) W (a0.eval (.tmp 3))) (g4 : (VarP 17 (Is (.agg ev.cells.toArray))) W (a0.eval (.tmp 4)))
    (hQ : ∀ a1 W1, Ext W W1 → (∀ t, ll13D.contains (some t) = false → a1.eval (.tmp t) = a0.eval (.tmp t)) → a1.tmps.size = 74 → a1.defers = a0.defers → (Is (.int .i64 ((EvalF e ev).1))) W1 (a1.eval (.tmp 10)) → (Is (.int .i64 ((EvalF e ev).2))) W1 (a1.eval (.tmp 11)) → Q .normal a1 W1) : llC13.wp Try.prog Q a0 W := by
  conv => arg 2; whnf
  refine wp_region_sq 8 ll13D (ll13P d e ev eu ) 74 (by kernel_rfl) hsz ?_ ?_ ?_
  · exact AllSt.cons ExD.st (AllSt.cons (Is.st _) (AllSt.cons (Is.st _) (AllSt.cons (Is.st _) (AllSt.cons (Is.st _) (AllSt.cons (Is.st _) (AllSt.cons (Is.st _) (AllSt.cons (Is.st _) (AllSt.nil))))))))
  · simp only [List.take_succ_cons, List.take_zero]
    refine ObL.cons trivial (fun v ρ w hx hd S => op_loadV _ _ rfl _ Try.underlying26 rfl info_expr (S.out rfl ((VarP.st ExD.st) _ _ _ hx g3))) ?_
    refine ObL.cons trivial (fun v ρ w hx hd S => op_loadV _ _ rfl _ Try.underlying29 rfl info_env (S.out rfl ((VarP.st (Is.st _)) _ _ _ hx g4))) ?_
    refine ObL.cons trivial (fun v ρ w hx hd S => op_evalT (e := e) ev hv rfl S (((show (ExD d e) w (ρ (.tmp 55)) from (S.dep 0 rfl (hd 0 rfl)))).elim fun cs h => ⟨cs, h.1, d, h.2⟩) (S.dep 1 rfl (hd 1 rfl))) ?_
    refine ObL.cons trivial (fun v ρ w hx hd S => op_move (p := Is (.tuple #[.int .i64 ((EvalF e ev).1), .int .i64 ((EvalF e ev).2)])) (.inl rfl) (S.dep 2 rfl (hd 2 rfl))) ?_
    refine ObL.cons trivial (fun v ρ w hx hd S => op_extract rfl (S.dep 3 rfl (hd 3 rfl)) rfl) ?_
    refine ObL.cons trivial (fun v ρ w hx hd S => op_extract rfl (S.dep 3 rfl (hd 3 rfl)) rfl) ?_
    refine ObL.cons trivial (fun v ρ w hx hd S => op_move (p := Is (.int .i64 ((EvalF e ev).1))) (.inr rfl) (S.dep 4 rfl (hd 4 rfl))) ?_
    refine ObL.cons trivial (fun v ρ w hx hd S => op_move (p := Is (.int .i64 ((EvalF e ev).2))) (.inr rfl) (S.dep 5 rfl (hd 5 rfl))) ?_
    exact ObL.nil
  · intro v a1 w hx hPP S hs hdf
    refine wpList_nil ?_
    exact hQ a1 w hx S.o hs hdf (S.dep 6 rfl (hPP 6 (by decide))) (S.dep 7 rfl (hPP 7 (by decide)))

noncomputable def llC14 : Code := ((Try.f5.body.bind (regionOf 14)).getD .skip)
def ll14D : List (Option Tmp) := [some 61, some 62, some 63, some 60, some 64, some 65, some 12, some 13]
def ll14P (d : Nat) (e : Ex) (ev eu : Ev)  : List (World → Value → Prop) := [(ExD d e), (Is (.agg (mixE (occN d e) ev eu).cells.toArray)), (Is (.tuple #[.int .i64 ((EvalF e (mixE (occN d e) ev eu)).1), .int .i64 ((EvalF e (mixE (occN d e) ev eu)).2)])), (Is (.tuple #[.int .i64 ((EvalF e (mixE (occN d e) ev eu)).1), .int .i64 ((EvalF e (mixE (occN d e) ev eu)).2)])), (Is (.int .i64 ((EvalF e (mixE (occN d e) ev eu)).1))), (Is (.int .i64 ((EvalF e (mixE (occN d e) ev eu)).2))), (Is (.int .i64 ((EvalF e (mixE (occN d e) ev eu)).1))), (Is (.int .i64 ((EvalF e (mixE (occN d e) ev eu)).2)))]
set_option maxHeartbeats 2000000 in
set_option maxRecDepth 100000 in
theorem ll14 (d : Nat) (e : Ex) (ev eu : Ev) (hv : ev.ok) (hu : eu.ok)  (Q : Exit → Act → World → Prop) (a0 : Act) (W : World) (hsz : a0.tmps.size = 74)  (g3 : (VarP 7 (ExD d e)) W (a0.eval (.tmp 3))) (g8 : (VarP 17 (Is (.agg (mixE (occN d e) ev eu).cells.toArray))) W (a0.eval (.tmp 8)))
    (hQ : ∀ a1 W1, Ext W W1 → (∀ t, ll14D.contains (some t) = false → a1.eval (.tmp t) = a0.eval (.tmp t)) → a1.tmps.size = 74 → a1.defers = a0.defers → (Is (.int .i64 ((EvalF e (mixE (occN d e) ev eu)).1))) W1 (a1.eval (.tmp 12)) → (Is (.int .i64 ((EvalF e (mixE (occN d e) ev eu)).2))) W1 (a1.eval (.tmp 13)) → Q .normal a1 W1) : llC14.wp Try.prog Q a0 W := by
  conv => arg 2; whnf
  refine wp_region_sq 8 ll14D (ll14P d e ev eu ) 74 (by kernel_rfl) hsz ?_ ?_ ?_
  · exact AllSt.cons ExD.st (AllSt.cons (Is.st _) (AllSt.cons (Is.st _) (AllSt.cons (Is.st _) (AllSt.cons (Is.st _) (AllSt.cons (Is.st _) (AllSt.cons (Is.st _) (AllSt.cons (Is.st _) (AllSt.nil))))))))
  · simp only [List.take_succ_cons, List.take_zero]
    refine ObL.cons trivial (fun v ρ w hx hd S => op_loadV _ _ rfl _ Try.underlying26 rfl info_expr (S.out rfl ((VarP.st ExD.st) _ _ _ hx g3))) ?_
    refine ObL.cons trivial (fun v ρ w hx hd S => op_loadV _ _ rfl _ Try.underlying29 rfl info_env (S.out rfl ((VarP.st (Is.st _)) _ _ _ hx g8))) ?_
    refine ObL.cons trivial (fun v ρ w hx hd S => op_evalT (e := e) (mixE (occN d e) ev eu) (mixE_ok hv hu) rfl S (((show (ExD d e) w (ρ (.tmp 61)) from (S.dep 0 rfl (hd 0 rfl)))).elim fun cs h => ⟨cs, h.1, d, h.2⟩) (S.dep 1 rfl (hd 1 rfl))) ?_
    refine ObL.cons trivial (fun v ρ w hx hd S => op_move (p := Is (.tuple #[.int .i64 ((EvalF e (mixE (occN d e) ev eu)).1), .int .i64 ((EvalF e (mixE (occN d e) ev eu)).2)])) (.inl rfl) (S.dep 2 rfl (hd 2 rfl))) ?_
    refine ObL.cons trivial (fun v ρ w hx hd S => op_extract rfl (S.dep 3 rfl (hd 3 rfl)) rfl) ?_
    refine ObL.cons trivial (fun v ρ w hx hd S => op_extract rfl (S.dep 3 rfl (hd 3 rfl)) rfl) ?_
    refine ObL.cons trivial (fun v ρ w hx hd S => op_move (p := Is (.int .i64 ((EvalF e (mixE (occN d e) ev eu)).1))) (.inr rfl) (S.dep 4 rfl (hd 4 rfl))) ?_
    refine ObL.cons trivial (fun v ρ w hx hd S => op_move (p := Is (.int .i64 ((EvalF e (mixE (occN d e) ev eu)).2))) (.inr rfl) (S.dep 5 rfl (hd 5 rfl))) ?_
    exact ObL.nil
  · intro v a1 w hx hPP S hs hdf
    refine wpList_nil ?_
    exact hQ a1 w hx S.o hs hdf (S.dep 6 rfl (hPP 6 (by decide))) (S.dep 7 rfl (hPP 7 (by decide)))

noncomputable def llC15 : Code := ((Try.f5.body.bind (regionOf 15)).getD .skip)
def ll15D : List (Option Tmp) := [some 66, some 67, some 68, some 69, some 70, some 71, some 72, some 73, some 6]
def ll15P (d : Nat) (e : Ex) (ev eu : Ev)  : List (World → Value → Prop) := [(Is (.int .i64 ((EvalF e ev).1))), (Is (.int .i64 ((EvalF e (mixE (occN d e) ev eu)).1))), (Is (.bool true)), (Is (.bool true)), (Is (.int .i64 ((EvalF e ev).2))), (Is (.int .i64 ((EvalF e (mixE (occN d e) ev eu)).2))), (Is (.bool true)), (Is (.bool true)), (Is (.bool true))]
set_option maxHeartbeats 2000000 in
set_option maxRecDepth 100000 in
theorem ll15 (d : Nat) (e : Ex) (ev eu : Ev) (hv : ev.ok) (hu : eu.ok)  (Q : Exit → Act → World → Prop) (a0 : Act) (W : World) (hsz : a0.tmps.size = 74) (hl : EvalF e (mixE (occN d e) ev eu) = EvalF e ev) (g10 : (Is (.int .i64 ((EvalF e ev).1))) W (a0.eval (.tmp 10))) (g11 : (Is (.int .i64 ((EvalF e ev).2))) W (a0.eval (.tmp 11))) (g12 : (Is (.int .i64 ((EvalF e (mixE (occN d e) ev eu)).1))) W (a0.eval (.tmp 12))) (g13 : (Is (.int .i64 ((EvalF e (mixE (occN d e) ev eu)).2))) W (a0.eval (.tmp 13)))
    (hQ : ∀ a1 W1, Ext W W1 → (∀ t, ll15D.contains (some t) = false → a1.eval (.tmp t) = a0.eval (.tmp t)) → a1.tmps.size = 74 → a1.defers = a0.defers → (Is (.bool true)) W1 (a1.eval (.tmp 6)) → Q .normal a1 W1) : llC15.wp Try.prog Q a0 W := by
  conv => arg 2; whnf
  refine wp_region_sq 9 ll15D (ll15P d e ev eu ) 74 (by kernel_rfl) hsz ?_ ?_ ?_
  · exact AllSt.cons (Is.st _) (AllSt.cons (Is.st _) (AllSt.cons (Is.st _) (AllSt.cons (Is.st _) (AllSt.cons (Is.st _) (AllSt.cons (Is.st _) (AllSt.cons (Is.st _) (AllSt.cons (Is.st _) (AllSt.cons (Is.st _) (AllSt.nil)))))))))
  · simp only [List.take_succ_cons, List.take_zero]
    refine ObL.cons trivial (fun v ρ w hx hd S => op_move (p := Is (.int .i64 ((EvalF e ev).1))) (.inl rfl) (S.out rfl ((Is.st _) _ _ _ hx g10))) ?_
    refine ObL.cons trivial (fun v ρ w hx hd S => op_move (p := Is (.int .i64 ((EvalF e (mixE (occN d e) ev eu)).1))) (.inl rfl) (S.out rfl ((Is.st _) _ _ _ hx g12))) ?_
    refine ObL.cons trivial (fun v ρ w hx hd S => (op_eql rfl (S.dep 0 rfl (hd 0 rfl)) (S.dep 1 rfl (hd 1 rfl))).mono fun u w1 hu => ⟨hu.1, hu.2.trans (congrArg Value.bool (by rw [hl]; simp))⟩) ?_
    refine ObL.cons trivial (fun v ρ w hx hd S => op_move (p := Is (.bool true)) (.inl rfl) (S.dep 2 rfl (hd 2 rfl))) ?_
    refine ObL.cons ⟨rfl, fun w u h => h⟩ (fun v ρ w hx hd S => op_move (p := Is (.int .i64 ((EvalF e ev).2))) (.inl rfl) (S.out rfl ((Is.st _) _ _ _ hx g11))) ?_
    refine ObL.cons ⟨rfl, fun w u h => h⟩ (fun v ρ w hx hd S => op_move (p := Is (.int .i64 ((EvalF e (mixE (occN d e) ev eu)).2))) (.inl rfl) (S.out rfl ((Is.st _) _ _ _ hx g13))) ?_
    refine ObL.cons ⟨rfl, fun w u h => h⟩ (fun v ρ w hx hd S => (op_eql rfl (S.dep 4 rfl (hd 4 rfl)) (S.dep 5 rfl (hd 5 rfl))).mono fun u w1 hu => ⟨hu.1, hu.2.trans (congrArg Value.bool (by rw [hl]; simp))⟩) ?_
    refine ObL.cons trivial (fun v ρ w hx hd S => op_pick (p := Is (.bool true)) true rfl (S.dep 3 rfl (hd 3 rfl)) (S.dep 6 rfl (hd 6 rfl))) ?_
    refine ObL.cons trivial (fun v ρ w hx hd S => op_move (p := Is (.bool true)) (.inr rfl) (S.dep 7 rfl (hd 7 rfl))) ?_
    exact ObL.nil
  · intro v a1 w hx hPP S hs hdf
    refine wpList_nil ?_
    exact hQ a1 w hx S.o hs hdf (S.dep 8 rfl (hPP 8 (by decide)))
set_option maxRecDepth 100000 in
set_option maxHeartbeats 2000000 in
theorem tevalLocal_any (d : Nat) (e : Ex) (ev eu : Ev) (hv : ev.ok) (hu : eu.ok) (cs : List Value) (w : World) (he : ExIn w d cs e) : Calls Try.prog 5 #[.agg cs.toArray, .agg ev.cells.toArray, .agg eu.cells.toArray] w fun en w1 => en = .returned (.bool true) ∧ Ext w w1 := by
  go_enter Try.func5, Try.ntmps5
  have hW : Ext w w := .refl _
  have hs0 : True := trivial
  have hd0 : ([] : List Deferred) = [] := rfl
  have g0 : (ExD d e) w (.agg cs.toArray) := ⟨cs, rfl, he⟩
  have g1 : (Is (.agg ev.cells.toArray)) w (.agg ev.cells.toArray) := rfl
  have g2 : (Is (.agg eu.cells.toArray)) w (.agg eu.cells.toArray) := rfl
  refine wp_seq (ll0 d e ev eu hv hu  _ _ _ rfl  g0 g1 g2 fun a1 W1 hx1 ho1 hs1 hd1 g3 g4 g5 => ?_)
  refine then_normal ?_
  replace hW : Ext w W1 := hW.trans hx1
  replace hd1 : a1.defers = [] := hd1.trans hd0
  clear hx1 ho1
  refine wp_seq ?_
  refine wp_seq (ll1 d e ev eu hv hu  _ _ _ hs1   fun a2 W2 hx2 ho2 hs2 hd2 g15 => ?_)
  refine then_normal ?_
  replace g3 : (VarP 7 (ExD d e)) W2 (a2.eval (.tmp 3)) := by rw [ho2 3 rfl]; exact (VarP.st ExD.st) _ _ _ hx2 g3
  replace g4 : (VarP 17 (Is (.agg ev.cells.toArray))) W2 (a2.eval (.tmp 4)) := by rw [ho2 4 rfl]; exact (VarP.st (Is.st _)) _ _ _ hx2 g4
  replace g5 : (VarP 17 (Is (.agg eu.cells.toArray))) W2 (a2.eval (.tmp 5)) := by rw [ho2 5 rfl]; exact (VarP.st (Is.st _)) _ _ _ hx2 g5
  replace hW : Ext w W2 := hW.trans hx2
  replace hd2 : a2.defers = [] := hd2.trans hd1
  clear hx2 ho2
  refine cond_f g15 ?_
  refine wp_skip ?_
  refine then_normal ?_
  refine wp_seq ?_
  by_cases hfew : fewF e = false
  case pos =>
    refine wp_seq (ll3a d e ev eu hv hu  _ _ _ hs2 hfew g3 fun a3 W3 hx3 ho3 hs3 hd3 g18 => ?_)
    refine then_normal ?_
    replace g3 : (VarP 7 (ExD d e)) W3 (a3.eval (.tmp 3)) := by rw [ho3 3 rfl]; exact (VarP.st ExD.st) _ _ _ hx3 g3
    replace g4 : (VarP 17 (Is (.agg ev.cells.toArray))) W3 (a3.eval (.tmp 4)) := by rw [ho3 4 rfl]; exact (VarP.st (Is.st _)) _ _ _ hx3 g4
    replace g5 : (VarP 17 (Is (.agg eu.cells.toArray))) W3 (a3.eval (.tmp 5)) := by rw [ho3 5 rfl]; exact (VarP.st (Is.st _)) _ _ _ hx3 g5
    replace g15 : (Is (.bool false)) W3 (a3.eval (.tmp 15)) := by rw [ho3 15 rfl]; exact (Is.st _) _ _ _ hx3 g15
    replace hW : Ext w W3 := hW.trans hx3
    replace hd3 : a3.defers = [] := hd3.trans hd2
    clear hx3 ho3
    refine cond_t g18 ?_
    refine wp_seq (ll4 d e ev eu hv hu  _ _ _ hs3   fun a4 W4 hx4 ho4 hs4 hd4 g6 => ?_)
    refine then_normal ?_
    replace g3 : (VarP 7 (ExD d e)) W4 (a4.eval (.tmp 3)) := by rw [ho4 3 rfl]; exact (VarP.st ExD.st) _ _ _ hx4 g3
    replace g4 : (VarP 17 (Is (.agg ev.cells.toArray))) W4 (a4.eval (.tmp 4)) := by rw [ho4 4 rfl]; exact (VarP.st (Is.st _)) _ _ _ hx4 g4
    replace g5 : (VarP 17 (Is (.agg eu.cells.toArray))) W4 (a4.eval (.tmp 5)) := by rw [ho4 5 rfl]; exact (VarP.st (Is.st _)) _ _ _ hx4 g5
    replace g15 : (Is (.bool false)) W4 (a4.eval (.tmp 15)) := by rw [ho4 15 rfl]; exact (Is.st _) _ _ _ hx4 g15
    replace g18 : (Is (.bool true)) W4 (a4.eval (.tmp 18)) := by rw [ho4 18 rfl]; exact (Is.st _) _ _ _ hx4 g18
    replace hW : Ext w W4 := hW.trans hx4
    replace hd4 : a4.defers = [] := hd4.trans hd3
    clear hx4 ho4
    refine wp_ret ?_
    show bodyPost Try.prog Try.f5 (fun en w1 => en = .returned (.bool true) ∧ Ext w w1) .ret _ _
    exact ret_is Try.results5 hd4 g6 ⟨rfl, hW⟩
  rw [Bool.not_eq_false] at hfew
  refine wp_seq (ll3b d e ev eu hv hu  _ _ _ hs2 hfew g3 fun a5 W5 hx5 ho5 hs5 hd5 g18 => ?_)
  refine then_normal ?_
  replace g3 : (VarP 7 (ExD d e)) W5 (a5.eval (.tmp 3)) := by rw [ho5 3 rfl]; exact (VarP.st ExD.st) _ _ _ hx5 g3
  replace g4 : (VarP 17 (Is (.agg ev.cells.toArray))) W5 (a5.eval (.tmp 4)) := by rw [ho5 4 rfl]; exact (VarP.st (Is.st _)) _ _ _ hx5 g4
  replace g5 : (VarP 17 (Is (.agg eu.cells.toArray))) W5 (a5.eval (.tmp 5)) := by rw [ho5 5 rfl]; exact (VarP.st (Is.st _)) _ _ _ hx5 g5
  replace hW : Ext w W5 := hW.trans hx5
  replace hd5 : a5.defers = [] := hd5.trans hd2
  clear hx5 ho5
  refine cond_f g18 ?_
  refine wp_skip ?_
  refine then_normal ?_
  refine wp_seq (ll5 d e ev eu hv hu  _ _ _ hs5  g3 fun a6 W6 hx6 ho6 hs6 hd6 g7 => ?_)
  refine then_normal ?_
  replace g3 : (VarP 7 (ExD d e)) W6 (a6.eval (.tmp 3)) := by rw [ho6 3 rfl]; exact (VarP.st ExD.st) _ _ _ hx6 g3
  replace g4 : (VarP 17 (Is (.agg ev.cells.toArray))) W6 (a6.eval (.tmp 4)) := by rw [ho6 4 rfl]; exact (VarP.st (Is.st _)) _ _ _ hx6 g4
  replace g5 : (VarP 17 (Is (.agg eu.cells.toArray))) W6 (a6.eval (.tmp 5)) := by rw [ho6 5 rfl]; exact (VarP.st (Is.st _)) _ _ _ hx6 g5
  replace hW : Ext w W6 := hW.trans hx6
  replace hd6 : a6.defers = [] := hd6.trans hd5
  clear hx6 ho6
  have hWb := hW
  have gb3 := g3
  have gb4 := g4
  have gb5 := g5
  refine wp_seq (ll6 d e ev eu hv hu  _ _ _ hs6  g4 g5 g7 fun a7 W7 hx7 ho7 hs7 hd7  X hX g8 ht hr => ?_)
  refine then_normal ?_
  replace g7 : (Is (.int .i64 (((occN d e : Nat) : Int)))) W7 (a7.eval (.tmp 7)) := by rw [ho7 7 rfl]; exact (Is.st _) _ _ _ hx7 g7
  replace hW : Ext w W7 := hW.trans hx7
  replace hd7 : a7.defers = [] := hd7.trans hd6
  have hb : Ext W6 W7 := hx7
  replace gb3 : (VarP 7 (ExD d e)) W6 (a7.eval (.tmp 3)) := by rw [ho7 3 rfl]; exact gb3
  replace gb4 : (VarP 17 (Is (.agg ev.cells.toArray))) W6 (a7.eval (.tmp 4)) := by rw [ho7 4 rfl]; exact gb4
  replace gb5 : (VarP 17 (Is (.agg eu.cells.toArray))) W6 (a7.eval (.tmp 5)) := by rw [ho7 5 rfl]; exact gb5
  clear hx7 ho7
  replace g8 : (Is (.pointer (some ⟨X, 0, none⟩))) W7 (a7.eval (.tmp 8)) := g8
  refine wp_seq ?_
  refine wp_seq (ll7 d e ev eu hv hu X _ _ _ hs7   fun a8 W8 hx8 ho8 hs8 hd8 g9 => ?_)
  refine then_normal ?_
  replace g7 : (Is (.int .i64 (((occN d e : Nat) : Int)))) W8 (a8.eval (.tmp 7)) := by rw [ho8 7 rfl]; exact (Is.st _) _ _ _ hx8 g7
  replace g8 : (Is (.pointer (some ⟨X, 0, none⟩))) W8 (a8.eval (.tmp 8)) := by rw [ho8 8 rfl]; exact (Is.st _) _ _ _ hx8 g8
  replace hW : Ext w W8 := hW.trans hx8
  replace hd8 : a8.defers = [] := hd8.trans hd7
  replace hb : Ext W6 W8 := hb.trans hx8
  replace ht : W8.there X 0 17 := fun j hj => by have h := ht j hj; have hlt := block_lt_of_cell (Option.isSome_iff_exists.1 h.1).choose_spec; exact ⟨by rw [hx8.cell_eq hlt]; exact h.1, by rw [hx8.frozen_eq hlt]; exact h.2⟩
  replace hr := hx8.range hr
  replace gb3 : (VarP 7 (ExD d e)) W6 (a8.eval (.tmp 3)) := by rw [ho8 3 rfl]; exact gb3
  replace gb4 : (VarP 17 (Is (.agg ev.cells.toArray))) W6 (a8.eval (.tmp 4)) := by rw [ho8 4 rfl]; exact gb4
  replace gb5 : (VarP 17 (Is (.agg eu.cells.toArray))) W6 (a8.eval (.tmp 5)) := by rw [ho8 5 rfl]; exact gb5
  clear hx8 ho8
  refine wp_block ?_
  refine wp_loop (fun a w1 => ∃ k : Nat, k ≤ 16 ∧ Ext W6 w1 ∧ a.tmps.size = 74 ∧ a.defers = [] ∧ w1.there X 0 17 ∧ w1.rangeAt X 0 (Ev.cells ⟨mixH (occN d e) ev.has eu.has, mixV (occN d e) ev.v eu.v k⟩) ∧ (VarP 7 (ExD d e)) W6 (a.eval (.tmp 3)) ∧ (VarP 17 (Is (.agg ev.cells.toArray))) W6 (a.eval (.tmp 4)) ∧ (VarP 17 (Is (.agg eu.cells.toArray))) W6 (a.eval (.tmp 5)) ∧ (Is (.int .i64 ((occN d e : Nat) : Int))) w1 (a.eval (.tmp 7)) ∧ (Is (.pointer (some ⟨X, 0, none⟩))) w1 (a.eval (.tmp 8)) ∧ Is (.int .i64 ((k : Nat) : Int)) w1 (a.eval (.tmp 9))) (fun a _ => 16 - (intOf (a.eval (.tmp 9))).toNat) ⟨0, Nat.zero_le _, hb, hs8, hd8, ht, hr, gb3, gb4, gb5, g7, g8, g9⟩ ?_
  clear hb ht hr gb3 gb4 gb5 g7 g8 g9 hW
  rintro aL wL ⟨k, hk, hb, hsL, hdL, ht, hr, gb3, gb4, gb5, g7, g8, g9⟩
  have hmu : (16 - (intOf (aL.eval (.tmp 9))).toNat) = 16 - k := by rw [show aL.eval (.tmp 9) = _ from g9]; simp [intOf]
  rw [hmu]
  have hW : Ext w wL := hWb.trans hb
  refine wp_seq ?_
  by_cases hkl : k < 16
  · skip
    refine wp_seq (ll8a d e ev eu hv hu X k _ _ _ hsL hkl g9 fun a9 W9 hx9 ho9 hs9 hd9 g32 => ?_)
    refine then_normal ?_
    replace g7 : (Is (.int .i64 (((occN d e : Nat) : Int)))) W9 (a9.eval (.tmp 7)) := by rw [ho9 7 rfl]; exact (Is.st _) _ _ _ hx9 g7
    replace g8 : (Is (.pointer (some ⟨X, 0, none⟩))) W9 (a9.eval (.tmp 8)) := by rw [ho9 8 rfl]; exact (Is.st _) _ _ _ hx9 g8
    replace g9 : (Is (.int .i64 (((k : Nat) : Int)))) W9 (a9.eval (.tmp 9)) := by rw [ho9 9 rfl]; exact (Is.st _) _ _ _ hx9 g9
    replace hW : Ext w W9 := hW.trans hx9
    replace hd9 : a9.defers = [] := hd9.trans hdL
    replace hb : Ext W6 W9 := hb.trans hx9
    replace ht : W9.there X 0 17 := fun j hj => by have h := ht j hj; have hlt := block_lt_of_cell (Option.isSome_iff_exists.1 h.1).choose_spec; exact ⟨by rw [hx9.cell_eq hlt]; exact h.1, by rw [hx9.frozen_eq hlt]; exact h.2⟩
    replace hr := hx9.range hr
    replace gb3 : (VarP 7 (ExD d e)) W6 (a9.eval (.tmp 3)) := by rw [ho9 3 rfl]; exact gb3
    replace gb4 : (VarP 17 (Is (.agg ev.cells.toArray))) W6 (a9.eval (.tmp 4)) := by rw [ho9 4 rfl]; exact gb4
    replace gb5 : (VarP 17 (Is (.agg eu.cells.toArray))) W6 (a9.eval (.tmp 5)) := by rw [ho9 5 rfl]; exact gb5
    clear hx9 ho9
    refine cond_t g32 ?_
    refine wp_skip ?_
    refine then_normal ?_
    refine wp_seq ?_
    refine wp_block ?_
    have g5 : (VarP 17 (Is (.agg eu.cells.toArray))) W9 (a9.eval (.tmp 5)) := (VarP.st (Is.st _)) _ _ _ hb gb5
    refine wp_seq (ll10 d e ev eu hv hu X k _ _ _ hs9 _ hb hX _ mixV_len hkl ht hr g5 g8 g9 fun a10 W10 hx10 ho10 hs10 hd10  ht2 hr2 => ?_)
    refine then_normal ?_
    replace hb := hx10
    replace hW : Ext w W10 := hWb.trans hb
    replace hd10 : a10.defers = [] := hd10.trans hd9
    replace ht := ht2
    replace hr := hr2
    replace gb3 : (VarP 7 (ExD d e)) W6 (a10.eval (.tmp 3)) := by rw [ho10 3 rfl]; exact gb3
    replace gb4 : (VarP 17 (Is (.agg ev.cells.toArray))) W6 (a10.eval (.tmp 4)) := by rw [ho10 4 rfl]; exact gb4
    replace gb5 : (VarP 17 (Is (.agg eu.cells.toArray))) W6 (a10.eval (.tmp 5)) := by rw [ho10 5 rfl]; exact gb5
    replace g7 : (Is (.int .i64 (((occN d e : Nat) : Int)))) W10 (a10.eval (.tmp 7)) := by rw [ho10 7 rfl]; exact g7
    replace g8 : (Is (.pointer (some ⟨X, 0, none⟩))) W10 (a10.eval (.tmp 8)) := by rw [ho10 8 rfl]; exact g8
    replace g9 : (Is (.int .i64 (((k : Nat) : Int)))) W10 (a10.eval (.tmp 9)) := by rw [ho10 9 rfl]; exact g9
    clear hx10 ho10
    by_cases hbit : (occN d e).testBit k = false
    case pos =>
      have hE : (mixV (occN d e) ev.v eu.v k).set k (eu.v.getD k 0) = mixV (occN d e) ev.v eu.v (k + 1) := by rw [← mixV_succ hkl]; unfold pick; rw [hbit]; rfl
      refine wp_seq (ll11a d e ev eu hv hu X k _ _ _ hs10 hkl hbit g7 g9 fun a11 W11 hx11 ho11 hs11 hd11 g46 => ?_)
      refine then_normal ?_
      replace g7 : (Is (.int .i64 (((occN d e : Nat) : Int)))) W11 (a11.eval (.tmp 7)) := by rw [ho11 7 rfl]; exact (Is.st _) _ _ _ hx11 g7
      replace g8 : (Is (.pointer (some ⟨X, 0, none⟩))) W11 (a11.eval (.tmp 8)) := by rw [ho11 8 rfl]; exact (Is.st _) _ _ _ hx11 g8
      replace g9 : (Is (.int .i64 (((k : Nat) : Int)))) W11 (a11.eval (.tmp 9)) := by rw [ho11 9 rfl]; exact (Is.st _) _ _ _ hx11 g9
      replace hW : Ext w W11 := hW.trans hx11
      replace hd11 : a11.defers = [] := hd11.trans hd10
      replace hb : Ext W6 W11 := hb.trans hx11
      replace ht : W11.there X 0 17 := fun j hj => by have h := ht j hj; have hlt := block_lt_of_cell (Option.isSome_iff_exists.1 h.1).choose_spec; exact ⟨by rw [hx11.cell_eq hlt]; exact h.1, by rw [hx11.frozen_eq hlt]; exact h.2⟩
      replace hr := hx11.range hr
      replace gb3 : (VarP 7 (ExD d e)) W6 (a11.eval (.tmp 3)) := by rw [ho11 3 rfl]; exact gb3
      replace gb4 : (VarP 17 (Is (.agg ev.cells.toArray))) W6 (a11.eval (.tmp 4)) := by rw [ho11 4 rfl]; exact gb4
      replace gb5 : (VarP 17 (Is (.agg eu.cells.toArray))) W6 (a11.eval (.tmp 5)) := by rw [ho11 5 rfl]; exact gb5
      clear hx11 ho11
      refine cond_f g46 ?_
      refine wp_skip ?_
      refine in_normal (then_normal ?_)
      refine (ll9 d e ev eu hv hu X k _ _ _ hs11 hkl g9 fun a12 W12 hx12 ho12 hs12 hd12 g9 => ?_)
      replace g7 : (Is (.int .i64 (((occN d e : Nat) : Int)))) W12 (a12.eval (.tmp 7)) := by rw [ho12 7 rfl]; exact (Is.st _) _ _ _ hx12 g7
      replace g8 : (Is (.pointer (some ⟨X, 0, none⟩))) W12 (a12.eval (.tmp 8)) := by rw [ho12 8 rfl]; exact (Is.st _) _ _ _ hx12 g8
      replace hW : Ext w W12 := hW.trans hx12
      replace hd12 : a12.defers = [] := hd12.trans hd11
      replace hb : Ext W6 W12 := hb.trans hx12
      replace ht : W12.there X 0 17 := fun j hj => by have h := ht j hj; have hlt := block_lt_of_cell (Option.isSome_iff_exists.1 h.1).choose_spec; exact ⟨by rw [hx12.cell_eq hlt]; exact h.1, by rw [hx12.frozen_eq hlt]; exact h.2⟩
      replace hr := hx12.range hr
      replace gb3 : (VarP 7 (ExD d e)) W6 (a12.eval (.tmp 3)) := by rw [ho12 3 rfl]; exact gb3
      replace gb4 : (VarP 17 (Is (.agg ev.cells.toArray))) W6 (a12.eval (.tmp 4)) := by rw [ho12 4 rfl]; exact gb4
      replace gb5 : (VarP 17 (Is (.agg eu.cells.toArray))) W6 (a12.eval (.tmp 5)) := by rw [ho12 5 rfl]; exact gb5
      clear hx12 ho12
      refine then_normal ⟨⟨k + 1, hkl, hb, hs12, hd12, ht, hE ▸ hr, gb3, gb4, gb5, g7, g8, g9⟩, ?_⟩
      rw [show a12.eval (.tmp 9) = _ from g9]; simp [intOf]; omega
    rw [Bool.not_eq_false] at hbit
    have hE : ((mixV (occN d e) ev.v eu.v k).set k (eu.v.getD k 0)).set k (ev.v.getD k 0) = mixV (occN d e) ev.v eu.v (k + 1) := by rw [← mixV_succ hkl, List.set_set]; unfold pick; rw [hbit]; rfl
    refine wp_seq (ll11b d e ev eu hv hu X k _ _ _ hs10 hkl hbit g7 g9 fun a13 W13 hx13 ho13 hs13 hd13 g46 => ?_)
    refine then_normal ?_
    replace g7 : (Is (.int .i64 (((occN d e : Nat) : Int)))) W13 (a13.eval (.tmp 7)) := by rw [ho13 7 rfl]; exact (Is.st _) _ _ _ hx13 g7
    replace g8 : (Is (.pointer (some ⟨X, 0, none⟩))) W13 (a13.eval (.tmp 8)) := by rw [ho13 8 rfl]; exact (Is.st _) _ _ _ hx13 g8
    replace g9 : (Is (.int .i64 (((k : Nat) : Int)))) W13 (a13.eval (.tmp 9)) := by rw [ho13 9 rfl]; exact (Is.st _) _ _ _ hx13 g9
    replace hW : Ext w W13 := hW.trans hx13
    replace hd13 : a13.defers = [] := hd13.trans hd10
    replace hb : Ext W6 W13 := hb.trans hx13
    replace ht : W13.there X 0 17 := fun j hj => by have h := ht j hj; have hlt := block_lt_of_cell (Option.isSome_iff_exists.1 h.1).choose_spec; exact ⟨by rw [hx13.cell_eq hlt]; exact h.1, by rw [hx13.frozen_eq hlt]; exact h.2⟩
    replace hr := hx13.range hr
    replace gb3 : (VarP 7 (ExD d e)) W6 (a13.eval (.tmp 3)) := by rw [ho13 3 rfl]; exact gb3
    replace gb4 : (VarP 17 (Is (.agg ev.cells.toArray))) W6 (a13.eval (.tmp 4)) := by rw [ho13 4 rfl]; exact gb4
    replace gb5 : (VarP 17 (Is (.agg eu.cells.toArray))) W6 (a13.eval (.tmp 5)) := by rw [ho13 5 rfl]; exact gb5
    clear hx13 ho13
    refine cond_t g46 ?_
    have g4 : (VarP 17 (Is (.agg ev.cells.toArray))) W13 (a13.eval (.tmp 4)) := (VarP.st (Is.st _)) _ _ _ hb gb4
    refine (ll12 d e ev eu hv hu X k _ _ _ hs13 _ hb hX _ (by rw [List.length_set]; exact mixV_len) hkl ht hr g4 g8 g9 fun a14 W14 hx14 ho14 hs14 hd14  ht2 hr2 => ?_)
    replace hb := hx14
    replace hW : Ext w W14 := hWb.trans hb
    replace hd14 : a14.defers = [] := hd14.trans hd13
    replace ht := ht2
    replace hr := hr2
    replace gb3 : (VarP 7 (ExD d e)) W6 (a14.eval (.tmp 3)) := by rw [ho14 3 rfl]; exact gb3
    replace gb4 : (VarP 17 (Is (.agg ev.cells.toArray))) W6 (a14.eval (.tmp 4)) := by rw [ho14 4 rfl]; exact gb4
    replace gb5 : (VarP 17 (Is (.agg eu.cells.toArray))) W6 (a14.eval (.tmp 5)) := by rw [ho14 5 rfl]; exact gb5
    replace g7 : (Is (.int .i64 (((occN d e : Nat) : Int)))) W14 (a14.eval (.tmp 7)) := by rw [ho14 7 rfl]; exact g7
    replace g8 : (Is (.pointer (some ⟨X, 0, none⟩))) W14 (a14.eval (.tmp 8)) := by rw [ho14 8 rfl]; exact g8
    replace g9 : (Is (.int .i64 (((k : Nat) : Int)))) W14 (a14.eval (.tmp 9)) := by rw [ho14 9 rfl]; exact g9
    clear hx14 ho14
    refine in_normal (then_normal ?_)
    refine (ll9 d e ev eu hv hu X k _ _ _ hs14 hkl g9 fun a15 W15 hx15 ho15 hs15 hd15 g9 => ?_)
    replace g7 : (Is (.int .i64 (((occN d e : Nat) : Int)))) W15 (a15.eval (.tmp 7)) := by rw [ho15 7 rfl]; exact (Is.st _) _ _ _ hx15 g7
    replace g8 : (Is (.pointer (some ⟨X, 0, none⟩))) W15 (a15.eval (.tmp 8)) := by rw [ho15 8 rfl]; exact (Is.st _) _ _ _ hx15 g8
    replace hW : Ext w W15 := hW.trans hx15
    replace hd15 : a15.defers = [] := hd15.trans hd14
    replace hb : Ext W6 W15 := hb.trans hx15
    replace ht : W15.there X 0 17 := fun j hj => by have h := ht j hj; have hlt := block_lt_of_cell (Option.isSome_iff_exists.1 h.1).choose_spec; exact ⟨by rw [hx15.cell_eq hlt]; exact h.1, by rw [hx15.frozen_eq hlt]; exact h.2⟩
    replace hr := hx15.range hr
    replace gb3 : (VarP 7 (ExD d e)) W6 (a15.eval (.tmp 3)) := by rw [ho15 3 rfl]; exact gb3
    replace gb4 : (VarP 17 (Is (.agg ev.cells.toArray))) W6 (a15.eval (.tmp 4)) := by rw [ho15 4 rfl]; exact gb4
    replace gb5 : (VarP 17 (Is (.agg eu.cells.toArray))) W6 (a15.eval (.tmp 5)) := by rw [ho15 5 rfl]; exact gb5
    clear hx15 ho15
    refine then_normal ⟨⟨k + 1, hkl, hb, hs15, hd15, ht, hE ▸ hr, gb3, gb4, gb5, g7, g8, g9⟩, ?_⟩
    rw [show a15.eval (.tmp 9) = _ from g9]; simp [intOf]; omega
  · have hke : k = 16 := by omega
    subst hke
    refine wp_seq (ll8b d e ev eu hv hu X _ _ _ hsL  g9 fun a16 W16 hx16 ho16 hs16 hd16 g32 => ?_)
    refine then_normal ?_
    replace g8 : (Is (.pointer (some ⟨X, 0, none⟩))) W16 (a16.eval (.tmp 8)) := by rw [ho16 8 rfl]; exact (Is.st _) _ _ _ hx16 g8
    replace hW : Ext w W16 := hW.trans hx16
    replace hd16 : a16.defers = [] := hd16.trans hdL
    replace hb : Ext W6 W16 := hb.trans hx16
    replace ht : W16.there X 0 17 := fun j hj => by have h := ht j hj; have hlt := block_lt_of_cell (Option.isSome_iff_exists.1 h.1).choose_spec; exact ⟨by rw [hx16.cell_eq hlt]; exact h.1, by rw [hx16.frozen_eq hlt]; exact h.2⟩
    replace hr := hx16.range hr
    replace gb3 : (VarP 7 (ExD d e)) W6 (a16.eval (.tmp 3)) := by rw [ho16 3 rfl]; exact gb3
    replace gb4 : (VarP 17 (Is (.agg ev.cells.toArray))) W6 (a16.eval (.tmp 4)) := by rw [ho16 4 rfl]; exact gb4
    replace gb5 : (VarP 17 (Is (.agg eu.cells.toArray))) W6 (a16.eval (.tmp 5)) := by rw [ho16 5 rfl]; exact gb5
    clear hx16 ho16
    refine cond_f g32 ?_
    refine wp_exit ?_
    refine then_exit (then_exit (exit_block (then_normal ?_)))
    have g3 : (VarP 7 (ExD d e)) W16 (a16.eval (.tmp 3)) := (VarP.st ExD.st) _ _ _ hb gb3
    have g4 : (VarP 17 (Is (.agg ev.cells.toArray))) W16 (a16.eval (.tmp 4)) := (VarP.st (Is.st _)) _ _ _ hb gb4
    replace g8 : (VarP 17 (Is (.agg (mixE (occN d e) ev eu).cells.toArray))) W16 (a16.eval (.tmp 8)) := ⟨X, _, g8, by simp [Ev.cells, mixV], hr, rfl⟩
    refine wp_seq (ll13 d e ev eu hv hu  _ _ _ hs16  g3 g4 fun a17 W17 hx17 ho17 hs17 hd17 g10 g11 => ?_)
    refine then_normal ?_
    replace g3 : (VarP 7 (ExD d e)) W17 (a17.eval (.tmp 3)) := by rw [ho17 3 rfl]; exact (VarP.st ExD.st) _ _ _ hx17 g3
    replace g8 : (VarP 17 (Is (.agg (mixE (occN d e) ev eu).cells.toArray))) W17 (a17.eval (.tmp 8)) := by rw [ho17 8 rfl]; exact (VarP.st (Is.st _)) _ _ _ hx17 g8
    replace hW : Ext w W17 := hW.trans hx17
    replace hd17 : a17.defers = [] := hd17.trans hd16
    clear hx17 ho17
    refine wp_seq (ll14 d e ev eu hv hu  _ _ _ hs17  g3 g8 fun a18 W18 hx18 ho18 hs18 hd18 g12 g13 => ?_)
    refine then_normal ?_
    replace g10 : (Is (.int .i64 ((EvalF e ev).1))) W18 (a18.eval (.tmp 10)) := by rw [ho18 10 rfl]; exact (Is.st _) _ _ _ hx18 g10
    replace g11 : (Is (.int .i64 ((EvalF e ev).2))) W18 (a18.eval (.tmp 11)) := by rw [ho18 11 rfl]; exact (Is.st _) _ _ _ hx18 g11
    replace hW : Ext w W18 := hW.trans hx18
    replace hd18 : a18.defers = [] := hd18.trans hd17
    clear hx18 ho18
    have hl : EvalF e (mixE (occN d e) ev eu) = EvalF e ev := EvalF_local he
    refine wp_seq (ll15 d e ev eu hv hu  _ _ _ hs18 hl g10 g11 g12 g13 fun a19 W19 hx19 ho19 hs19 hd19 g6 => ?_)
    refine then_normal ?_
    replace g10 : (Is (.int .i64 ((EvalF e ev).1))) W19 (a19.eval (.tmp 10)) := by rw [ho19 10 rfl]; exact (Is.st _) _ _ _ hx19 g10
    replace g11 : (Is (.int .i64 ((EvalF e ev).2))) W19 (a19.eval (.tmp 11)) := by rw [ho19 11 rfl]; exact (Is.st _) _ _ _ hx19 g11
    replace g12 : (Is (.int .i64 ((EvalF e (mixE (occN d e) ev eu)).1))) W19 (a19.eval (.tmp 12)) := by rw [ho19 12 rfl]; exact (Is.st _) _ _ _ hx19 g12
    replace g13 : (Is (.int .i64 ((EvalF e (mixE (occN d e) ev eu)).2))) W19 (a19.eval (.tmp 13)) := by rw [ho19 13 rfl]; exact (Is.st _) _ _ _ hx19 g13
    replace hW : Ext w W19 := hW.trans hx19
    replace hd19 : a19.defers = [] := hd19.trans hd18
    clear hx19 ho19
    refine wp_ret ?_
    show bodyPost Try.prog Try.f5 (fun en w1 => en = .returned (.bool true) ∧ Ext w w1) .ret _ _
    exact ret_is Try.results5 hd19 g6 ⟨rfl, hW⟩

end Go.Proofs.Ytophdbbbojnobaa
