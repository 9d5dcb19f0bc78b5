/- The statements of the law's examples. -/
import Derived.Test.YtophdbbbojnobaaProg
import Derived.Test.YtophdbbbojnobaaOp18
namespace Go.Proofs.Ytophdbbbojnobaa
open Go.RowKit
set_option linter.unusedVariables false

theorem info_tariff : (Try.prog.info? 38).map (·.size) = some 3 := by kernel_rfl
def ev0 : Ev := ⟨96, [0, 0, 0, 0, 0, 12000, 150, 0, 0, 0, 0, 0, 0, 0, 0, 0]⟩
theorem ev0_ok : ev0.ok := by refine ⟨rfl, by constructor <;> decide, ?_⟩; intro y hy; simp only [ev0, List.mem_cons, List.mem_nil_iff, or_false] at hy; rcases hy with rfl | rfl | rfl | rfl | rfl | rfl | rfl | rfl | rfl | rfl | rfl | rfl | rfl | rfl | rfl | rfl <;> constructor <;> decide
def ch1 : Ex := .mk 11 0 0 0 0 0 [leaf 2 6, leaf 1 200, leaf 1 1, leaf 2 4]
def ch2 : Ex := .mk 11 0 0 0 0 0 [leaf 1 200, leaf 2 6, leaf 1 1, leaf 2 4]

def tf1 : Tf := ⟨⟨#[]⟩, 0, [⟨⟨#[]⟩, [⟨6, 149, 149⟩], leaf 1 1⟩, ⟨⟨#[]⟩, [⟨5, 1, 20000⟩], leaf 1 2⟩, ⟨⟨#[]⟩, [], leaf 1 3⟩]⟩
def triCells (S0 S1 : Nat) : List Value := (.string ⟨#[]⟩ :: .slice (some ⟨S0, 0, none⟩) 1 1 :: leafCells 1 1) ++ (.string ⟨#[]⟩ :: .slice (some ⟨S1, 0, none⟩) 1 1 :: leafCells 1 2) ++ (.string ⟨#[]⟩ :: .slice none 0 0 :: leafCells 1 3)
/-- what is made around the three clauses of the example's tariff -/
def Tri (f : Value → Value) : World → Value → Prop := fun w u => ∃ S0 S1 S2, u = f (.slice (some ⟨S2, 0, none⟩) 3 3) ∧ S0 < w.heap.size ∧ S1 < w.heap.size ∧ S2 < w.heap.size ∧ w.rangeAt S0 0 (tstCells ⟨6, 149, 149⟩) ∧ w.rangeAt S1 0 (tstCells ⟨5, 1, 20000⟩) ∧ w.rangeAt S2 0 (triCells S0 S1)
theorem Tri.st {f : Value → Value} : St (Tri f) := fun w w' u hx ⟨S0, S1, S2, h, h0, h1, h2, h3, h4, h5⟩ => ⟨S0, S1, S2, h, Nat.lt_of_lt_of_le h0 hx.size, Nat.lt_of_lt_of_le h1 hx.size, Nat.lt_of_lt_of_le h2 hx.size, hx.range h3, hx.range h4, hx.range h5⟩
theorem tri_in {w : World} {S0 S1 S2 : Nat} (h0 : S0 < w.heap.size) (h1 : S1 < w.heap.size) (h2 : S2 < w.heap.size) (h3 : w.rangeAt S0 0 (tstCells ⟨6, 149, 149⟩)) (h4 : w.rangeAt S1 0 (tstCells ⟨5, 1, 20000⟩)) (h5 : w.rangeAt S2 0 (triCells S0 S1)) :
    SlIn w 9 (ClIn w) (.slice (some ⟨S2, 0, none⟩) 3 3) tf1.cls := by
  have t0 : ∀ (a b c : Int), I64 a → I64 b → I64 c → ∀ t ∈ [(⟨a, b, c⟩ : Tst)], I64 t.a ∧ I64 t.lo ∧ I64 t.hi := by
    intro a b c ha hb hc t ht
    obtain rfl : t = ⟨a, b, c⟩ := by simpa using ht
    exact ⟨ha, hb, hc⟩
  refine row_in [((.string ⟨#[]⟩ :: .slice (some ⟨S0, 0, none⟩) 1 1 :: leafCells 1 1), (⟨⟨#[]⟩, [⟨6, 149, 149⟩], leaf 1 1⟩ : Cl)), ((.string ⟨#[]⟩ :: .slice (some ⟨S1, 0, none⟩) 1 1 :: leafCells 1 2), (⟨⟨#[]⟩, [⟨5, 1, 20000⟩], leaf 1 2⟩ : Cl)), ((.string ⟨#[]⟩ :: .slice none 0 0 :: leafCells 1 3), (⟨⟨#[]⟩, [], leaf 1 3⟩ : Cl))] ?_ h2 h5 rfl (by decide)
  intro p hp
  simp only [List.mem_cons, List.mem_nil_iff, or_false] at hp
  rcases hp with rfl | rfl | rfl
  · exact ⟨rfl, _, _, rfl, tests_row (t0 _ _ _ (by constructor <;> decide) (by constructor <;> decide) (by constructor <;> decide)) rfl (by decide) h0 h3, 1, leaf_in _ _ (by constructor <;> decide) (by constructor <;> decide) w 0⟩
  · exact ⟨rfl, _, _, rfl, tests_row (t0 _ _ _ (by constructor <;> decide) (by constructor <;> decide) (by constructor <;> decide)) rfl (by decide) h1 h4, 1, leaf_in _ _ (by constructor <;> decide) (by constructor <;> decide) w 0⟩
  · exact ⟨rfl, _, _, rfl, ⟨none, 0, rfl, by decide, by decide, fun h => absurd h (by decide)⟩, 1, leaf_in _ _ (by constructor <;> decide) (by constructor <;> decide) w 0⟩

noncomputable def sr7C : Code := ((Try.f9.body.bind (regionOf 7)).getD .skip)
def sr7D : List (Option Tmp) := [some 23, some 24, some 25, some 26, some 27, some 28, some 5]
def sr7P (B : Nat) : List (World → Value → Prop) := [(Is (.agg (leafCells 2 6).toArray)), (Is (.agg (leafCells 1 200).toArray)), (Is (.agg (leafCells 1 1).toArray)), (Is (.agg (leafCells 2 4).toArray)), (WithRow (fun s => s) 4 [.int .i64 2, .int .i64 6, .int .i64 0, .int .i64 0, .int .i64 0, .int .i64 0, .slice none 0 0, .int .i64 1, .int .i64 200, .int .i64 0, .int .i64 0, .int .i64 0, .int .i64 0, .slice none 0 0, .int .i64 1, .int .i64 1, .int .i64 0, .int .i64 0, .int .i64 0, .int .i64 0, .slice none 0 0, .int .i64 2, .int .i64 4, .int .i64 0, .int .i64 0, .int .i64 0, .int .i64 0, .slice none 0 0]), (WithRow (fun s => .agg #[.int .i64 11, .int .i64 0, .int .i64 0, .int .i64 0, .int .i64 0, .int .i64 0, s]) 4 [.int .i64 2, .int .i64 6, .int .i64 0, .int .i64 0, .int .i64 0, .int .i64 0, .slice none 0 0, .int .i64 1, .int .i64 200, .int .i64 0, .int .i64 0, .int .i64 0, .int .i64 0, .slice none 0 0, .int .i64 1, .int .i64 1, .int .i64 0, .int .i64 0, .int .i64 0, .int .i64 0, .slice none 0 0, .int .i64 2, .int .i64 4, .int .i64 0, .int .i64 0, .int .i64 0, .int .i64 0, .slice none 0 0]), (FreshV B [.int .i64 0, .int .i64 0, .int .i64 0, .int .i64 0, .int .i64 0, .int .i64 0, .slice none 0 0] 26)]
set_option maxHeartbeats 2000000 in
set_option maxRecDepth 100000 in
theorem sr7 (Q : Exit → Act → World → Prop) (a0 : Act) (W : World) (hsz : a0.tmps.size = 149) (h3 : (VarP 7 (Is (.agg (leafCells 2 6).toArray))) W (a0.eval (.tmp 3))) (h4 : (VarP 7 (Is (.agg (leafCells 2 4).toArray))) W (a0.eval (.tmp 4)))
    (hQ : ∀ a1 W1, Ext W W1 → (∀ t, sr7D.contains (some t) = false → a1.eval (.tmp t) = a0.eval (.tmp t)) → a1.tmps.size = 149 → a1.defers = a0.defers → VarP 7 (ExD 11 ch1) W1 (a1.eval (.tmp 5)) → Q .normal a1 W1) : sr7C.wp Try.prog Q a0 W := by
  conv => arg 2; whnf
  refine wp_region_st 7 sr7D (sr7P W.heap.size) 149 (by kernel_rfl) (by kernel_rfl) hsz ?_ ?_ ?_
  · exact AllSt.cons (Is.st _) (AllSt.cons (Is.st _) (AllSt.cons (Is.st _) (AllSt.cons (Is.st _) (AllSt.cons WithRow.st (AllSt.cons WithRow.st (AllSt.cons FreshV.st (AllSt.nil)))))))
  · simp only [List.take_succ_cons, List.take_zero]
    refine ObL.cons trivial (fun v ρ w hx hd S => op_loadV _ _ rfl _ Try.underlying26 rfl info_expr (S.out rfl ((VarP.st (Is.st _)) _ _ _ hx h3))) ?_
    refine ObL.cons trivial (fun v ρ w hx hd S => op_integer 200 rfl S) ?_
    refine ObL.cons trivial (fun v ρ w hx hd S => op_integer 1 rfl S) ?_
    refine ObL.cons trivial (fun v ρ w hx hd S => op_loadV _ _ rfl _ Try.underlying26 rfl info_expr (S.out rfl ((VarP.st (Is.st _)) _ _ _ hx h4))) ?_
    refine ObL.cons trivial (fun v ρ w hx hd S => (by have g0 : ρ (.tmp 23) = .agg #[.int .i64 2, .int .i64 6, .int .i64 0, .int .i64 0, .int .i64 0, .int .i64 0, .slice none 0 0] := (S.dep 0 rfl (hd 0 rfl)); have g1 : ρ (.tmp 24) = .agg #[.int .i64 1, .int .i64 200, .int .i64 0, .int .i64 0, .int .i64 0, .int .i64 0, .slice none 0 0] := (S.dep 1 rfl (hd 1 rfl)); have g2 : ρ (.tmp 25) = .agg #[.int .i64 1, .int .i64 1, .int .i64 0, .int .i64 0, .int .i64 0, .int .i64 0, .slice none 0 0] := (S.dep 2 rfl (hd 2 rfl)); have g3 : ρ (.tmp 26) = .agg #[.int .i64 2, .int .i64 4, .int .i64 0, .int .i64 0, .int .i64 0, .int .i64 0, .slice none 0 0] := (S.dep 3 rfl (hd 3 rfl)); clear hd S; exact op_row 4 [.int .i64 2, .int .i64 6, .int .i64 0, .int .i64 0, .int .i64 0, .int .i64 0, .slice none 0 0, .int .i64 1, .int .i64 200, .int .i64 0, .int .i64 0, .int .i64 0, .int .i64 0, .slice none 0 0, .int .i64 1, .int .i64 1, .int .i64 0, .int .i64 0, .int .i64 0, .int .i64 0, .slice none 0 0, .int .i64 2, .int .i64 4, .int .i64 0, .int .i64 0, .int .i64 0, .int .i64 0, .slice none 0 0] (by go_simp <;> rfl))) ?_
    refine ObL.cons trivial (fun v ρ w hx hd S => (by obtain ⟨X, e, h1, h2⟩ : WithRow (fun s => s) 4 [.int .i64 2, .int .i64 6, .int .i64 0, .int .i64 0, .int .i64 0, .int .i64 0, .slice none 0 0, .int .i64 1, .int .i64 200, .int .i64 0, .int .i64 0, .int .i64 0, .int .i64 0, .slice none 0 0, .int .i64 1, .int .i64 1, .int .i64 0, .int .i64 0, .int .i64 0, .int .i64 0, .slice none 0 0, .int .i64 2, .int .i64 4, .int .i64 0, .int .i64 0, .int .i64 0, .int .i64 0, .slice none 0 0] w (ρ (.tmp 27)) := (S.dep 4 rfl (hd 4 rfl)); have c := S.c; clear hd S; exact post_value (by go_simp <;> exact ⟨rfl, rfl⟩) ⟨.refl _, X, rfl, h1, h2⟩)) ?_
    refine ObL.cons trivial (fun v ρ w hx hd S => op_alloc [.int .i64 0, .int .i64 0, .int .i64 0, .int .i64 0, .int .i64 0, .int .i64 0, .slice none 0 0] (by clear hd S; go_simp) hx) ?_
    exact ObL.nil
  · intro v a1 w hx hPP S hs hdf
    refine stable_last (o := _) rfl (by kernel_rfl) (by kernel_rfl) rfl rfl ?_
    obtain ⟨X, ex, hX, hX2, hX3⟩ : FreshV W.heap.size _ _ w _ := S.dep 6 rfl (hPP 6 (by decide))
    obtain ⟨R, er, hR, hR2⟩ : (WithRow (fun s => .agg #[.int .i64 11, .int .i64 0, .int .i64 0, .int .i64 0, .int .i64 0, .int .i64 0, s]) 4 [.int .i64 2, .int .i64 6, .int .i64 0, .int .i64 0, .int .i64 0, .int .i64 0, .slice none 0 0, .int .i64 1, .int .i64 200, .int .i64 0, .int .i64 0, .int .i64 0, .int .i64 0, .slice none 0 0, .int .i64 1, .int .i64 1, .int .i64 0, .int .i64 0, .int .i64 0, .int .i64 0, .slice none 0 0, .int .i64 2, .int .i64 4, .int .i64 0, .int .i64 0, .int .i64 0, .int .i64 0, .slice none 0 0]) w _ := S.dep 5 rfl (hPP 5 (by decide))
    have hRX : R ≠ X := apart_of (k := 0) (hR2 0 _ rfl) (by simp [World.cell?, hX3])
    refine wp_store_var (W := W) (w := w) (X := X) _ _ _ rfl ex er hX hX3 rfl info_expr rfl hx ?_
    intro w1 hx1 hr1 hap hsz1
    refine hQ a1 w1 hx1 S.o hs hdf ⟨X, _, ex, rfl, hr1, _, rfl, .slice (some ⟨R, 0, none⟩) 4 4, rfl, (by constructor <;> decide), (by constructor <;> decide), (by constructor <;> decide), (by constructor <;> decide), (by constructor <;> decide), (by constructor <;> decide), ?_⟩
    exact row_in [(leafCells 2 6, leaf 2 6), (leafCells 1 200, leaf 1 200), (leafCells 1 1, leaf 1 1), (leafCells 2 4, leaf 2 4)] (by intro p hp; simp only [List.mem_cons, List.mem_nil_iff, or_false] at hp; rcases hp with rfl | rfl | rfl | rfl <;> exact ⟨rfl, leaf_in _ _ (by constructor <;> decide) (by constructor <;> decide) _ 9⟩) (by rw [hsz1]; exact hR) (hap _ _ _ hRX hR2) rfl (by decide)

noncomputable def sr8C : Code := ((Try.f9.body.bind (regionOf 8)).getD .skip)
def sr8D : List (Option Tmp) := [some 29, some 30, some 31, some 32, some 33, some 34, some 6]
def sr8P (B : Nat) : List (World → Value → Prop) := [(Is (.agg (leafCells 1 200).toArray)), (Is (.agg (leafCells 2 6).toArray)), (Is (.agg (leafCells 1 1).toArray)), (Is (.agg (leafCells 2 4).toArray)), (WithRow (fun s => s) 4 [.int .i64 1, .int .i64 200, .int .i64 0, .int .i64 0, .int .i64 0, .int .i64 0, .slice none 0 0, .int .i64 2, .int .i64 6, .int .i64 0, .int .i64 0, .int .i64 0, .int .i64 0, .slice none 0 0, .int .i64 1, .int .i64 1, .int .i64 0, .int .i64 0, .int .i64 0, .int .i64 0, .slice none 0 0, .int .i64 2, .int .i64 4, .int .i64 0, .int .i64 0, .int .i64 0, .int .i64 0, .slice none 0 0]), (WithRow (fun s => .agg #[.int .i64 11, .int .i64 0, .int .i64 0, .int .i64 0, .int .i64 0, .int .i64 0, s]) 4 [.int .i64 1, .int .i64 200, .int .i64 0, .int .i64 0, .int .i64 0, .int .i64 0, .slice none 0 0, .int .i64 2, .int .i64 6, .int .i64 0, .int .i64 0, .int .i64 0, .int .i64 0, .slice none 0 0, .int .i64 1, .int .i64 1, .int .i64 0, .int .i64 0, .int .i64 0, .int .i64 0, .slice none 0 0, .int .i64 2, .int .i64 4, .int .i64 0, .int .i64 0, .int .i64 0, .int .i64 0, .slice none 0 0]), (FreshV B [.int .i64 0, .int .i64 0, .int .i64 0, .int .i64 0, .int .i64 0, .int .i64 0, .slice none 0 0] 26)]
set_option maxHeartbeats 2000000 in
set_option maxRecDepth 100000 in
theorem sr8 (Q : Exit → Act → World → Prop) (a0 : Act) (W : World) (hsz : a0.tmps.size = 149) (h3 : (VarP 7 (Is (.agg (leafCells 2 6).toArray))) W (a0.eval (.tmp 3))) (h4 : (VarP 7 (Is (.agg (leafCells 2 4).toArray))) W (a0.eval (.tmp 4)))
    (hQ : ∀ a1 W1, Ext W W1 → (∀ t, sr8D.contains (some t) = false → a1.eval (.tmp t) = a0.eval (.tmp t)) → a1.tmps.size = 149 → a1.defers = a0.defers → VarP 7 (ExD 11 ch2) W1 (a1.eval (.tmp 6)) → Q .normal a1 W1) : sr8C.wp Try.prog Q a0 W := by
  conv => arg 2; whnf
  refine wp_region_st 7 sr8D (sr8P W.heap.size) 149 (by kernel_rfl) (by kernel_rfl) hsz ?_ ?_ ?_
  · exact AllSt.cons (Is.st _) (AllSt.cons (Is.st _) (AllSt.cons (Is.st _) (AllSt.cons (Is.st _) (AllSt.cons WithRow.st (AllSt.cons WithRow.st (AllSt.cons FreshV.st (AllSt.nil)))))))
  · simp only [List.take_succ_cons, List.take_zero]
    refine ObL.cons trivial (fun v ρ w hx hd S => op_integer 200 rfl S) ?_
    refine ObL.cons trivial (fun v ρ w hx hd S => op_loadV _ _ rfl _ Try.underlying26 rfl info_expr (S.out rfl ((VarP.st (Is.st _)) _ _ _ hx h3))) ?_
    refine ObL.cons trivial (fun v ρ w hx hd S => op_integer 1 rfl S) ?_
    refine ObL.cons trivial (fun v ρ w hx hd S => op_loadV _ _ rfl _ Try.underlying26 rfl info_expr (S.out rfl ((VarP.st (Is.st _)) _ _ _ hx h4))) ?_
    refine ObL.cons trivial (fun v ρ w hx hd S => (by have g0 : ρ (.tmp 29) = .agg #[.int .i64 1, .int .i64 200, .int .i64 0, .int .i64 0, .int .i64 0, .int .i64 0, .slice none 0 0] := (S.dep 0 rfl (hd 0 rfl)); have g1 : ρ (.tmp 30) = .agg #[.int .i64 2, .int .i64 6, .int .i64 0, .int .i64 0, .int .i64 0, .int .i64 0, .slice none 0 0] := (S.dep 1 rfl (hd 1 rfl)); have g2 : ρ (.tmp 31) = .agg #[.int .i64 1, .int .i64 1, .int .i64 0, .int .i64 0, .int .i64 0, .int .i64 0, .slice none 0 0] := (S.dep 2 rfl (hd 2 rfl)); have g3 : ρ (.tmp 32) = .agg #[.int .i64 2, .int .i64 4, .int .i64 0, .int .i64 0, .int .i64 0, .int .i64 0, .slice none 0 0] := (S.dep 3 rfl (hd 3 rfl)); clear hd S; exact op_row 4 [.int .i64 1, .int .i64 200, .int .i64 0, .int .i64 0, .int .i64 0, .int .i64 0, .slice none 0 0, .int .i64 2, .int .i64 6, .int .i64 0, .int .i64 0, .int .i64 0, .int .i64 0, .slice none 0 0, .int .i64 1, .int .i64 1, .int .i64 0, .int .i64 0, .int .i64 0, .int .i64 0, .slice none 0 0, .int .i64 2, .int .i64 4, .int .i64 0, .int .i64 0, .int .i64 0, .int .i64 0, .slice none 0 0] (by go_simp <;> rfl))) ?_
    refine ObL.cons trivial (fun v ρ w hx hd S => (by obtain ⟨X, e, h1, h2⟩ : WithRow (fun s => s) 4 [.int .i64 1, .int .i64 200, .int .i64 0, .int .i64 0, .int .i64 0, .int .i64 0, .slice none 0 0, .int .i64 2, .int .i64 6, .int .i64 0, .int .i64 0, .int .i64 0, .int .i64 0, .slice none 0 0, .int .i64 1, .int .i64 1, .int .i64 0, .int .i64 0, .int .i64 0, .int .i64 0, .slice none 0 0, .int .i64 2, .int .i64 4, .int .i64 0, .int .i64 0, .int .i64 0, .int .i64 0, .slice none 0 0] w (ρ (.tmp 33)) := (S.dep 4 rfl (hd 4 rfl)); have c := S.c; clear hd S; exact post_value (by go_simp <;> exact ⟨rfl, rfl⟩) ⟨.refl _, X, rfl, h1, h2⟩)) ?_
    refine ObL.cons trivial (fun v ρ w hx hd S => op_alloc [.int .i64 0, .int .i64 0, .int .i64 0, .int .i64 0, .int .i64 0, .int .i64 0, .slice none 0 0] (by clear hd S; go_simp) hx) ?_
    exact ObL.nil
  · intro v a1 w hx hPP S hs hdf
    refine stable_last (o := _) rfl (by kernel_rfl) (by kernel_rfl) rfl rfl ?_
    obtain ⟨X, ex, hX, hX2, hX3⟩ : FreshV W.heap.size _ _ w _ := S.dep 6 rfl (hPP 6 (by decide))
    obtain ⟨R, er, hR, hR2⟩ : (WithRow (fun s => .agg #[.int .i64 11, .int .i64 0, .int .i64 0, .int .i64 0, .int .i64 0, .int .i64 0, s]) 4 [.int .i64 1, .int .i64 200, .int .i64 0, .int .i64 0, .int .i64 0, .int .i64 0, .slice none 0 0, .int .i64 2, .int .i64 6, .int .i64 0, .int .i64 0, .int .i64 0, .int .i64 0, .slice none 0 0, .int .i64 1, .int .i64 1, .int .i64 0, .int .i64 0, .int .i64 0, .int .i64 0, .slice none 0 0, .int .i64 2, .int .i64 4, .int .i64 0, .int .i64 0, .int .i64 0, .int .i64 0, .slice none 0 0]) w _ := S.dep 5 rfl (hPP 5 (by decide))
    have hRX : R ≠ X := apart_of (k := 0) (hR2 0 _ rfl) (by simp [World.cell?, hX3])
    refine wp_store_var (W := W) (w := w) (X := X) _ _ _ rfl ex er hX hX3 rfl info_expr rfl hx ?_
    intro w1 hx1 hr1 hap hsz1
    refine hQ a1 w1 hx1 S.o hs hdf ⟨X, _, ex, rfl, hr1, _, rfl, .slice (some ⟨R, 0, none⟩) 4 4, rfl, (by constructor <;> decide), (by constructor <;> decide), (by constructor <;> decide), (by constructor <;> decide), (by constructor <;> decide), (by constructor <;> decide), ?_⟩
    exact row_in [(leafCells 1 200, leaf 1 200), (leafCells 2 6, leaf 2 6), (leafCells 1 1, leaf 1 1), (leafCells 2 4, leaf 2 4)] (by intro p hp; simp only [List.mem_cons, List.mem_nil_iff, or_false] at hp; rcases hp with rfl | rfl | rfl | rfl <;> exact ⟨rfl, leaf_in _ _ (by constructor <;> decide) (by constructor <;> decide) _ 9⟩) (by rw [hsz1]; exact hR) (hap _ _ _ hRX hR2) rfl (by decide)

noncomputable def sr9C : Code := ((Try.f9.body.bind (regionOf 9)).getD .skip)
def sr9D : List (Option Tmp) := [some 36, some 37, some 38, some 39, some 40, some 41, some 35, some 42, some 43, some 7, some 8]
def sr9P : List (World → Value → Prop) := [(Is (.agg #[.int .i64 5, .int .i64 0, .int .i64 12000])), (Is (.agg #[.int .i64 6, .int .i64 150, .int .i64 150])), (WithRow (fun s => s) 2 [.int .i64 5, .int .i64 0, .int .i64 12000, .int .i64 6, .int .i64 150, .int .i64 150]), (WithRow (fun s => .agg #[.string ⟨#[]⟩, s, .int .i64 0, .int .i64 0, .int .i64 0, .int .i64 0, .int .i64 0, .int .i64 0, .slice none 0 0]) 2 [.int .i64 5, .int .i64 0, .int .i64 12000, .int .i64 6, .int .i64 150, .int .i64 150]), (Is (.agg ev0.cells.toArray)), (Is (.tuple #[.bool true, .int .i64 0])), (Is (.tuple #[.bool true, .int .i64 0])), (Is (.bool true)), (Is (.int .i64 0)), (Is (.bool true)), (Is (.int .i64 0))]
set_option maxHeartbeats 2000000 in
set_option maxRecDepth 100000 in
theorem sr9 (Q : Exit → Act → World → Prop) (a0 : Act) (W : World) (hsz : a0.tmps.size = 149) (h1 : (VarP 17 (Is (.agg ev0.cells.toArray))) W (a0.eval (.tmp 1)))
    (hQ : ∀ a1 W1, Ext W W1 → (∀ t, sr9D.contains (some t) = false → a1.eval (.tmp t) = a0.eval (.tmp t)) → a1.tmps.size = 149 → a1.defers = a0.defers → (Is (.bool true)) W1 (a1.eval (.tmp 7)) → (Is (.int .i64 0)) W1 (a1.eval (.tmp 8)) → Q .normal a1 W1) : sr9C.wp Try.prog Q a0 W := by
  conv => arg 2; whnf
  refine wp_region_sq 11 sr9D sr9P 149 (by kernel_rfl) hsz ?_ ?_ ?_
  · exact AllSt.cons (Is.st _) (AllSt.cons (Is.st _) (AllSt.cons WithRow.st (AllSt.cons WithRow.st (AllSt.cons (Is.st _) (AllSt.cons (Is.st _) (AllSt.cons (Is.st _) (AllSt.cons (Is.st _) (AllSt.cons (Is.st _) (AllSt.cons (Is.st _) (AllSt.cons (Is.st _) (AllSt.nil)))))))))))
  · simp only [List.take_succ_cons, List.take_zero]
    refine ObL.cons trivial (fun v ρ w hx hd S => (by have c := S.c; clear hd S; exact post_value (u := .agg #[.int .i64 5, .int .i64 0, .int .i64 12000]) (w' := w) (by go_simp) ⟨.refl _, rfl⟩)) ?_
    refine ObL.cons trivial (fun v ρ w hx hd S => (by have c := S.c; clear hd S; exact post_value (u := .agg #[.int .i64 6, .int .i64 150, .int .i64 150]) (w' := w) (by go_simp) ⟨.refl _, rfl⟩)) ?_
    refine ObL.cons trivial (fun v ρ w hx hd S => (by have g0 : ρ (.tmp 36) = .agg #[.int .i64 5, .int .i64 0, .int .i64 12000] := (S.dep 0 rfl (hd 0 rfl)); have g1 : ρ (.tmp 37) = .agg #[.int .i64 6, .int .i64 150, .int .i64 150] := (S.dep 1 rfl (hd 1 rfl)); clear hd S; exact op_row 2 [.int .i64 5, .int .i64 0, .int .i64 12000, .int .i64 6, .int .i64 150, .int .i64 150] (by go_simp <;> rfl))) ?_
    refine ObL.cons trivial (fun v ρ w hx hd S => (by obtain ⟨X, e, h1, h2⟩ : WithRow (fun s => s) 2 [.int .i64 5, .int .i64 0, .int .i64 12000, .int .i64 6, .int .i64 150, .int .i64 150] w (ρ (.tmp 38)) := (S.dep 2 rfl (hd 2 rfl)); have c := S.c; clear hd S; exact post_value (by go_simp <;> exact ⟨rfl, rfl⟩) ⟨.refl _, X, rfl, h1, h2⟩)) ?_
    refine ObL.cons trivial (fun v ρ w hx hd S => op_loadV _ _ rfl _ Try.underlying29 rfl info_env (S.out rfl ((VarP.st (Is.st _)) _ _ _ hx h1))) ?_
    refine ObL.cons trivial (fun v ρ w hx hd S => op_holds ev0 ev0_ok rfl S (c := ⟨⟨#[]⟩, [⟨5, 0, 12000⟩, ⟨6, 150, 150⟩], leaf 0 0⟩) (cl_row (by constructor <;> decide) (by constructor <;> decide) (by intro t ht; simp only [List.mem_cons, List.mem_nil_iff, or_false] at ht; rcases ht with rfl | rfl <;> exact ⟨by constructor <;> decide, by constructor <;> decide, by constructor <;> decide⟩) rfl (by decide) (S.dep 3 rfl (hd 3 rfl))) (S.dep 4 rfl (hd 4 rfl)) true 0 (by kernel_rfl)) ?_
    refine ObL.cons trivial (fun v ρ w hx hd S => op_move (p := Is (.tuple #[.bool true, .int .i64 0])) (.inl rfl) (S.dep 5 rfl (hd 5 rfl))) ?_
    refine ObL.cons trivial (fun v ρ w hx hd S => op_extract rfl (S.dep 6 rfl (hd 6 rfl)) rfl) ?_
    refine ObL.cons trivial (fun v ρ w hx hd S => op_extract rfl (S.dep 6 rfl (hd 6 rfl)) rfl) ?_
    refine ObL.cons trivial (fun v ρ w hx hd S => op_move (p := Is (.bool true)) (.inr rfl) (S.dep 7 rfl (hd 7 rfl))) ?_
    refine ObL.cons trivial (fun v ρ w hx hd S => op_move (p := Is (.int .i64 0)) (.inr rfl) (S.dep 8 rfl (hd 8 rfl))) ?_
    exact ObL.nil
  · intro v a1 w hx hPP S hs hdf
    refine wpList_nil ?_
    exact hQ a1 w hx S.o hs hdf (S.dep 9 rfl (hPP 9 (by decide))) (S.dep 10 rfl (hPP 10 (by decide)))

noncomputable def sr10C : Code := ((Try.f9.body.bind (regionOf 10)).getD .skip)
def sr10D : List (Option Tmp) := [some 45, some 46, some 47, some 48, some 49, some 50, some 44, some 51, some 52, some 9, some 10]
def sr10P : List (World → Value → Prop) := [(Is (.agg #[.int .i64 6, .int .i64 149, .int .i64 149])), (Is (.agg #[.int .i64 4, .int .i64 1, .int .i64 1])), (WithRow (fun s => s) 2 [.int .i64 6, .int .i64 149, .int .i64 149, .int .i64 4, .int .i64 1, .int .i64 1]), (WithRow (fun s => .agg #[.string ⟨#[]⟩, s, .int .i64 0, .int .i64 0, .int .i64 0, .int .i64 0, .int .i64 0, .int .i64 0, .slice none 0 0]) 2 [.int .i64 6, .int .i64 149, .int .i64 149, .int .i64 4, .int .i64 1, .int .i64 1]), (Is (.agg ev0.cells.toArray)), (Is (.tuple #[.bool false, .int .i64 0])), (Is (.tuple #[.bool false, .int .i64 0])), (Is (.bool false)), (Is (.int .i64 0)), (Is (.bool false)), (Is (.int .i64 0))]
set_option maxHeartbeats 2000000 in
set_option maxRecDepth 100000 in
theorem sr10 (Q : Exit → Act → World → Prop) (a0 : Act) (W : World) (hsz : a0.tmps.size = 149) (h1 : (VarP 17 (Is (.agg ev0.cells.toArray))) W (a0.eval (.tmp 1)))
    (hQ : ∀ a1 W1, Ext W W1 → (∀ t, sr10D.contains (some t) = false → a1.eval (.tmp t) = a0.eval (.tmp t)) → a1.tmps.size = 149 → a1.defers = a0.defers → (Is (.bool false)) W1 (a1.eval (.tmp 9)) → (Is (.int .i64 0)) W1 (a1.eval (.tmp 10)) → Q .normal a1 W1) : sr10C.wp Try.prog Q a0 W := by
  conv => arg 2; whnf
  refine wp_region_sq 11 sr10D sr10P 149 (by kernel_rfl) hsz ?_ ?_ ?_
  · exact AllSt.cons (Is.st _) (AllSt.cons (Is.st _) (AllSt.cons WithRow.st (AllSt.cons WithRow.st (AllSt.cons (Is.st _) (AllSt.cons (Is.st _) (AllSt.cons (Is.st _) (AllSt.cons (Is.st _) (AllSt.cons (Is.st _) (AllSt.cons (Is.st _) (AllSt.cons (Is.st _) (AllSt.nil)))))))))))
  · simp only [List.take_succ_cons, List.take_zero]
    refine ObL.cons trivial (fun v ρ w hx hd S => (by have c := S.c; clear hd S; exact post_value (u := .agg #[.int .i64 6, .int .i64 149, .int .i64 149]) (w' := w) (by go_simp) ⟨.refl _, rfl⟩)) ?_
    refine ObL.cons trivial (fun v ρ w hx hd S => (by have c := S.c; clear hd S; exact post_value (u := .agg #[.int .i64 4, .int .i64 1, .int .i64 1]) (w' := w) (by go_simp) ⟨.refl _, rfl⟩)) ?_
    refine ObL.cons trivial (fun v ρ w hx hd S => (by have g0 : ρ (.tmp 45) = .agg #[.int .i64 6, .int .i64 149, .int .i64 149] := (S.dep 0 rfl (hd 0 rfl)); have g1 : ρ (.tmp 46) = .agg #[.int .i64 4, .int .i64 1, .int .i64 1] := (S.dep 1 rfl (hd 1 rfl)); clear hd S; exact op_row 2 [.int .i64 6, .int .i64 149, .int .i64 149, .int .i64 4, .int .i64 1, .int .i64 1] (by go_simp <;> rfl))) ?_
    refine ObL.cons trivial (fun v ρ w hx hd S => (by obtain ⟨X, e, h1, h2⟩ : WithRow (fun s => s) 2 [.int .i64 6, .int .i64 149, .int .i64 149, .int .i64 4, .int .i64 1, .int .i64 1] w (ρ (.tmp 47)) := (S.dep 2 rfl (hd 2 rfl)); have c := S.c; clear hd S; exact post_value (by go_simp <;> exact ⟨rfl, rfl⟩) ⟨.refl _, X, rfl, h1, h2⟩)) ?_
    refine ObL.cons trivial (fun v ρ w hx hd S => op_loadV _ _ rfl _ Try.underlying29 rfl info_env (S.out rfl ((VarP.st (Is.st _)) _ _ _ hx h1))) ?_
    refine ObL.cons trivial (fun v ρ w hx hd S => op_holds ev0 ev0_ok rfl S (c := ⟨⟨#[]⟩, [⟨6, 149, 149⟩, ⟨4, 1, 1⟩], leaf 0 0⟩) (cl_row (by constructor <;> decide) (by constructor <;> decide) (by intro t ht; simp only [List.mem_cons, List.mem_nil_iff, or_false] at ht; rcases ht with rfl | rfl <;> exact ⟨by constructor <;> decide, by constructor <;> decide, by constructor <;> decide⟩) rfl (by decide) (S.dep 3 rfl (hd 3 rfl))) (S.dep 4 rfl (hd 4 rfl)) false 0 (by kernel_rfl)) ?_
    refine ObL.cons trivial (fun v ρ w hx hd S => op_move (p := Is (.tuple #[.bool false, .int .i64 0])) (.inl rfl) (S.dep 5 rfl (hd 5 rfl))) ?_
    refine ObL.cons trivial (fun v ρ w hx hd S => op_extract rfl (S.dep 6 rfl (hd 6 rfl)) rfl) ?_
    refine ObL.cons trivial (fun v ρ w hx hd S => op_extract rfl (S.dep 6 rfl (hd 6 rfl)) rfl) ?_
    refine ObL.cons trivial (fun v ρ w hx hd S => op_move (p := Is (.bool false)) (.inr rfl) (S.dep 7 rfl (hd 7 rfl))) ?_
    refine ObL.cons trivial (fun v ρ w hx hd S => op_move (p := Is (.int .i64 0)) (.inr rfl) (S.dep 8 rfl (hd 8 rfl))) ?_
    exact ObL.nil
  · intro v a1 w hx hPP S hs hdf
    refine wpList_nil ?_
    exact hQ a1 w hx S.o hs hdf (S.dep 9 rfl (hPP 9 (by decide))) (S.dep 10 rfl (hPP 10 (by decide)))

noncomputable def sr11C : Code := ((Try.f9.body.bind (regionOf 11)).getD .skip)
def sr11D : List (Option Tmp) := [some 53, some 54, some 55, some 56, some 57, some 58, some 59, some 60, some 61, some 62, some 63, some 64, some 11]
def sr11P (B : Nat) : List (World → Value → Prop) := [(Is (.agg #[.int .i64 6, .int .i64 149, .int .i64 149])), (WithRow (fun s => s) 1 [.int .i64 6, .int .i64 149, .int .i64 149]), (Is (.agg (leafCells 1 1).toArray)), (WithRow (fun s => .agg #[.string ⟨#[]⟩, s, .int .i64 1, .int .i64 1, .int .i64 0, .int .i64 0, .int .i64 0, .int .i64 0, .slice none 0 0]) 1 [.int .i64 6, .int .i64 149, .int .i64 149]), (Is (.agg #[.int .i64 5, .int .i64 1, .int .i64 20000])), (WithRow (fun s => s) 1 [.int .i64 5, .int .i64 1, .int .i64 20000]), (Is (.agg (leafCells 1 2).toArray)), (WithRow (fun s => .agg #[.string ⟨#[]⟩, s, .int .i64 1, .int .i64 2, .int .i64 0, .int .i64 0, .int .i64 0, .int .i64 0, .slice none 0 0]) 1 [.int .i64 5, .int .i64 1, .int .i64 20000]), (Is (.agg (leafCells 1 3).toArray)), (Is (.agg #[.string ⟨#[]⟩, .slice none 0 0, .int .i64 1, .int .i64 3, .int .i64 0, .int .i64 0, .int .i64 0, .int .i64 0, .slice none 0 0])), (Tri (fun s => s)), (Tri (fun s => .agg #[.string ⟨#[]⟩, .int .i64 0, s])), (FreshV B [.string ⟨#[]⟩, .int .i64 0, .slice none 0 0] 38)]
set_option maxHeartbeats 2000000 in
set_option maxRecDepth 100000 in
theorem sr11 (Q : Exit → Act → World → Prop) (a0 : Act) (W : World) (hsz : a0.tmps.size = 149) 
    (hQ : ∀ a1 W1, Ext W W1 → (∀ t, sr11D.contains (some t) = false → a1.eval (.tmp t) = a0.eval (.tmp t)) → a1.tmps.size = 149 → a1.defers = a0.defers → VarP 3 (TfP tf1) W1 (a1.eval (.tmp 11)) → Q .normal a1 W1) : sr11C.wp Try.prog Q a0 W := by
  conv => arg 2; whnf
  refine wp_region_sq 13 sr11D (sr11P W.heap.size) 149 (by kernel_rfl) hsz ?_ ?_ ?_
  · exact AllSt.cons (Is.st _) (AllSt.cons WithRow.st (AllSt.cons (Is.st _) (AllSt.cons WithRow.st (AllSt.cons (Is.st _) (AllSt.cons WithRow.st (AllSt.cons (Is.st _) (AllSt.cons WithRow.st (AllSt.cons (Is.st _) (AllSt.cons (Is.st _) (AllSt.cons Tri.st (AllSt.cons Tri.st (AllSt.cons FreshV.st (AllSt.nil)))))))))))))
  · simp only [List.take_succ_cons, List.take_zero]
    refine ObL.cons trivial (fun v ρ w hx hd S => (by have c := S.c; clear hd S; exact post_value (u := .agg #[.int .i64 6, .int .i64 149, .int .i64 149]) (w' := w) (by go_simp) ⟨.refl _, rfl⟩)) ?_
    refine ObL.cons trivial (fun v ρ w hx hd S => (by have g0 : ρ (.tmp 53) = .agg #[.int .i64 6, .int .i64 149, .int .i64 149] := (S.dep 0 rfl (hd 0 rfl)); clear hd S; exact op_row 1 [.int .i64 6, .int .i64 149, .int .i64 149] (by go_simp <;> rfl))) ?_
    refine ObL.cons trivial (fun v ρ w hx hd S => op_integer 1 rfl S) ?_
    refine ObL.cons trivial (fun v ρ w hx hd S => (by have g1 : ρ (.tmp 55) = .agg #[.int .i64 1, .int .i64 1, .int .i64 0, .int .i64 0, .int .i64 0, .int .i64 0, .slice none 0 0] := (S.dep 2 rfl (hd 2 rfl)); obtain ⟨X, e, h1, h2⟩ : WithRow (fun s => s) 1 [.int .i64 6, .int .i64 149, .int .i64 149] w (ρ (.tmp 54)) := (S.dep 1 rfl (hd 1 rfl)); have c := S.c; clear hd S; exact post_value (by go_simp <;> exact ⟨rfl, rfl⟩) ⟨.refl _, X, rfl, h1, h2⟩)) ?_
    refine ObL.cons trivial (fun v ρ w hx hd S => (by have c := S.c; clear hd S; exact post_value (u := .agg #[.int .i64 5, .int .i64 1, .int .i64 20000]) (w' := w) (by go_simp) ⟨.refl _, rfl⟩)) ?_
    refine ObL.cons trivial (fun v ρ w hx hd S => (by have g0 : ρ (.tmp 57) = .agg #[.int .i64 5, .int .i64 1, .int .i64 20000] := (S.dep 4 rfl (hd 4 rfl)); clear hd S; exact op_row 1 [.int .i64 5, .int .i64 1, .int .i64 20000] (by go_simp <;> rfl))) ?_
    refine ObL.cons trivial (fun v ρ w hx hd S => op_integer 2 rfl S) ?_
    refine ObL.cons trivial (fun v ρ w hx hd S => (by have g1 : ρ (.tmp 59) = .agg #[.int .i64 1, .int .i64 2, .int .i64 0, .int .i64 0, .int .i64 0, .int .i64 0, .slice none 0 0] := (S.dep 6 rfl (hd 6 rfl)); obtain ⟨X, e, h1, h2⟩ : WithRow (fun s => s) 1 [.int .i64 5, .int .i64 1, .int .i64 20000] w (ρ (.tmp 58)) := (S.dep 5 rfl (hd 5 rfl)); have c := S.c; clear hd S; exact post_value (by go_simp <;> exact ⟨rfl, rfl⟩) ⟨.refl _, X, rfl, h1, h2⟩)) ?_
    refine ObL.cons trivial (fun v ρ w hx hd S => op_integer 3 rfl S) ?_
    refine ObL.cons trivial (fun v ρ w hx hd S => (by have g0 : ρ (.tmp 61) = .agg #[.int .i64 1, .int .i64 3, .int .i64 0, .int .i64 0, .int .i64 0, .int .i64 0, .slice none 0 0] := (S.dep 8 rfl (hd 8 rfl)); have c := S.c; clear hd S; exact post_value (u := .agg #[.string ⟨#[]⟩, .slice none 0 0, .int .i64 1, .int .i64 3, .int .i64 0, .int .i64 0, .int .i64 0, .int .i64 0, .slice none 0 0]) (w' := w) (by go_simp) ⟨.refl _, rfl⟩)) ?_
    refine ObL.cons trivial (fun v ρ w hx hd S => (by obtain ⟨S0, e0, hs0, hr0⟩ : (WithRow (fun s => .agg #[.string ⟨#[]⟩, s, .int .i64 1, .int .i64 1, .int .i64 0, .int .i64 0, .int .i64 0, .int .i64 0, .slice none 0 0]) 1 [.int .i64 6, .int .i64 149, .int .i64 149]) w (ρ (.tmp 56)) := (S.dep 3 rfl (hd 3 rfl)); obtain ⟨S1, e1, hs1, hr1⟩ : (WithRow (fun s => .agg #[.string ⟨#[]⟩, s, .int .i64 1, .int .i64 2, .int .i64 0, .int .i64 0, .int .i64 0, .int .i64 0, .slice none 0 0]) 1 [.int .i64 5, .int .i64 1, .int .i64 20000]) w (ρ (.tmp 60)) := (S.dep 7 rfl (hd 7 rfl)); have e2 : ρ (.tmp 62) = .agg #[.string ⟨#[]⟩, .slice none 0 0, .int .i64 1, .int .i64 3, .int .i64 0, .int .i64 0, .int .i64 0, .int .i64 0, .slice none 0 0] := (S.dep 9 rfl (hd 9 rfl)); clear hd S; exact post_value (u := .slice (some ⟨w.heap.size, 0, none⟩) 3 3) (w' := w.alloc (.cells (triCells S0 S1).toArray 46)) (by unfold triCells leafCells; go_simp <;> rfl) ⟨(Ext.refl _).alloc _, S0, S1, w.heap.size, rfl, by simp; omega, by simp; omega, by simp, ((Ext.refl _).alloc _).range hr0, ((Ext.refl _).alloc _).range hr1, range_alloc⟩)) ?_
    refine ObL.cons trivial (fun v ρ w hx hd S => (by obtain ⟨S0, S1, S2, e, h⟩ : Tri (fun s => s) w (ρ (.tmp 63)) := (S.dep 10 rfl (hd 10 rfl)); have c := S.c; clear hd S; exact post_value (by go_simp <;> exact ⟨rfl, rfl⟩) ⟨.refl _, S0, S1, S2, rfl, h⟩)) ?_
    refine ObL.cons trivial (fun v ρ w hx hd S => op_alloc [.string ⟨#[]⟩, .int .i64 0, .slice none 0 0] (by clear hd S; go_simp) hx) ?_
    exact ObL.nil
  · intro v a1 w hx hPP S hs hdf
    refine wpList_plain rfl fun K hK => ?_
    obtain ⟨X, ex, hX, hX2, hX3⟩ : FreshV W.heap.size _ _ w _ := S.dep 12 rfl (hPP 12 (by decide))
    obtain ⟨S0, S1, S2, er, hs0, hs1, hs2, hr0, hr1, hr2⟩ : (Tri (fun s => .agg #[.string ⟨#[]⟩, .int .i64 0, s])) w _ := S.dep 11 rfl (hPP 11 (by decide))
    have hx0 : S0 ≠ X := apart_of (k := 0) (hr0 0 _ rfl) (by simp [World.cell?, hX3])
    have hx1 : S1 ≠ X := apart_of (k := 0) (hr1 0 _ rfl) (by simp [World.cell?, hX3])
    have hx2 : S2 ≠ X := apart_of (k := 1) (hr2 1 _ rfl) (by simp [World.cell?, hX3])
    refine wp_store_var (W := W) (w := w) (X := X) _ _ _ rfl ex er hX hX3 rfl info_tariff rfl hx ?_
    intro w1 hxx hr3 hap hsz1
    exact hK _ _ <| wpList_nil <| hQ a1 w1 hxx S.o hs hdf ⟨X, _, ex, rfl, hr3, _, rfl, .slice (some ⟨S2, 0, none⟩) 3 3, rfl, (by constructor <;> decide), tri_in (by omega) (by omega) (by omega) (hap _ _ _ hx0 hr0) (hap _ _ _ hx1 hr1) (hap _ _ _ hx2 hr2)⟩

noncomputable def sr12C : Code := ((Try.f9.body.bind (regionOf 12)).getD .skip)
def sr12D : List (Option Tmp) := [some 66, some 67, some 68, some 65, some 69, some 70, some 71, some 12, some 13, some 14]
def sr12P : List (World → Value → Prop) := [(TfP tf1), (Is (.agg ev0.cells.toArray)), (Is (.tuple #[.int .i64 2, .int .i64 1, .int .i64 0])), (Is (.tuple #[.int .i64 2, .int .i64 1, .int .i64 0])), (Is (.int .i64 2)), (Is (.int .i64 1)), (Is (.int .i64 0)), (Is (.int .i64 2)), (Is (.int .i64 1)), (Is (.int .i64 0))]
set_option maxHeartbeats 2000000 in
set_option maxRecDepth 100000 in
theorem sr12 (Q : Exit → Act → World → Prop) (a0 : Act) (W : World) (hsz : a0.tmps.size = 149) (h1 : (VarP 17 (Is (.agg ev0.cells.toArray))) W (a0.eval (.tmp 1))) (h11 : (VarP 3 (TfP tf1)) W (a0.eval (.tmp 11)))
    (hQ : ∀ a1 W1, Ext W W1 → (∀ t, sr12D.contains (some t) = false → a1.eval (.tmp t) = a0.eval (.tmp t)) → a1.tmps.size = 149 → a1.defers = a0.defers → (Is (.int .i64 2)) W1 (a1.eval (.tmp 12)) → (Is (.int .i64 1)) W1 (a1.eval (.tmp 13)) → (Is (.int .i64 0)) W1 (a1.eval (.tmp 14)) → Q .normal a1 W1) : sr12C.wp Try.prog Q a0 W := by
  conv => arg 2; whnf
  refine wp_region_sq 10 sr12D sr12P 149 (by kernel_rfl) hsz ?_ ?_ ?_
  · exact AllSt.cons TfP.st (AllSt.cons (Is.st _) (AllSt.cons (Is.st _) (AllSt.cons (Is.st _) (AllSt.cons (Is.st _) (AllSt.cons (Is.st _) (AllSt.cons (Is.st _) (AllSt.cons (Is.st _) (AllSt.cons (Is.st _) (AllSt.cons (Is.st _) (AllSt.nil))))))))))
  · simp only [List.take_succ_cons, List.take_zero]
    refine ObL.cons trivial (fun v ρ w hx hd S => op_loadV _ _ rfl _ Try.underlying38 rfl info_tariff (S.out rfl ((VarP.st TfP.st) _ _ _ hx h11))) ?_
    refine ObL.cons trivial (fun v ρ w hx hd S => op_loadV _ _ rfl _ Try.underlying29 rfl info_env (S.out rfl ((VarP.st (Is.st _)) _ _ _ hx h1))) ?_
    refine ObL.cons trivial (fun v ρ w hx hd S => op_amount ev0 ev0_ok rfl S (t := tf1) (S.dep 0 rfl (hd 0 rfl)) (S.dep 1 rfl (hd 1 rfl)) 2 1 0 (by kernel_rfl)) ?_
    refine ObL.cons trivial (fun v ρ w hx hd S => op_move (p := Is (.tuple #[.int .i64 2, .int .i64 1, .int .i64 0])) (.inl rfl) (S.dep 2 rfl (hd 2 rfl))) ?_
    refine ObL.cons trivial (fun v ρ w hx hd S => op_extract rfl (S.dep 3 rfl (hd 3 rfl)) rfl) ?_
    refine ObL.cons trivial (fun v ρ w hx hd S => op_extract rfl (S.dep 3 rfl (hd 3 rfl)) rfl) ?_
    refine ObL.cons trivial (fun v ρ w hx hd S => op_extract rfl (S.dep 3 rfl (hd 3 rfl)) rfl) ?_
    refine ObL.cons trivial (fun v ρ w hx hd S => op_move (p := Is (.int .i64 2)) (.inr rfl) (S.dep 4 rfl (hd 4 rfl))) ?_
    refine ObL.cons trivial (fun v ρ w hx hd S => op_move (p := Is (.int .i64 1)) (.inr rfl) (S.dep 5 rfl (hd 5 rfl))) ?_
    refine ObL.cons trivial (fun v ρ w hx hd S => op_move (p := Is (.int .i64 0)) (.inr rfl) (S.dep 6 rfl (hd 6 rfl))) ?_
    exact ObL.nil
  · intro v a1 w hx hPP S hs hdf
    refine wpList_nil ?_
    exact hQ a1 w hx S.o hs hdf (S.dep 7 rfl (hPP 7 (by decide))) (S.dep 8 rfl (hPP 8 (by decide))) (S.dep 9 rfl (hPP 9 (by decide)))

noncomputable def sr13C : Code := ((Try.f9.body.bind (regionOf 13)).getD .skip)
def sr13D : List (Option Tmp) := [some 72, some 73, some 74, some 75, some 76, some 77, some 78, some 79, some 80, some 81, some 82, some 83, some 84, some 85, some 86, some 87, some 88, some 89, some 90, some 91, some 92, some 93, some 94, some 95, some 96, some 97, some 98, some 99, some 100, some 101]
def sr13P : List (World → Value → Prop) := [(Is (.agg (leafCells 2 5).toArray)), (Is (.agg (leafCells 2 6).toArray)), (ExD 2 (two 5 (leaf 2 5) (leaf 2 6))), (Is (.agg ev0.cells.toArray)), (Is (.int .i64 1800000)), (Is (.bool false)), (Is (.bool false)), (Is (.agg (leafCells 2 5).toArray)), (Is (.agg (leafCells 1 7).toArray)), (ExD 2 (two 8 (leaf 2 5) (leaf 1 7))), (Is (.agg ev0.cells.toArray)), (Is (.int .i64 1714)), (Is (.bool false)), (Is (.bool false)), (Is (.bool false)), (Is (.agg (leafCells 2 5).toArray)), (Is (.agg (leafCells 1 7).toArray)), (ExD 2 (two 9 (leaf 2 5) (leaf 1 7))), (Is (.agg ev0.cells.toArray)), (Is (.int .i64 1715)), (Is (.bool false)), (Is (.bool false)), (Is (.bool false)), (Is (.agg (leafCells 2 5).toArray)), (Is (.agg (leafCells 1 7).toArray)), (ExD 2 (two 10 (leaf 2 5) (leaf 1 7))), (Is (.agg ev0.cells.toArray)), (Is (.int .i64 1714)), (Is (.bool false)), (Is (.bool false))]
set_option maxHeartbeats 2000000 in
set_option maxRecDepth 100000 in
theorem sr13 (Q : Exit → Act → World → Prop) (a0 : Act) (W : World) (hsz : a0.tmps.size = 149) (h1 : (VarP 17 (Is (.agg ev0.cells.toArray))) W (a0.eval (.tmp 1))) (h2 : (VarP 7 (Is (.agg (leafCells 2 5).toArray))) W (a0.eval (.tmp 2))) (h3 : (VarP 7 (Is (.agg (leafCells 2 6).toArray))) W (a0.eval (.tmp 3)))
    (hQ : ∀ a1 W1, Ext W W1 → (∀ t, sr13D.contains (some t) = false → a1.eval (.tmp t) = a0.eval (.tmp t)) → a1.tmps.size = 149 → a1.defers = a0.defers → (Is (.bool false)) W1 (a1.eval (.tmp 101)) → Q .normal a1 W1) : sr13C.wp Try.prog Q a0 W := by
  conv => arg 2; whnf
  refine wp_region_st 30 sr13D sr13P 149 (by kernel_rfl) (by kernel_rfl) hsz ?_ ?_ ?_
  · exact AllSt.cons (Is.st _) (AllSt.cons (Is.st _) (AllSt.cons ExD.st (AllSt.cons (Is.st _) (AllSt.cons (Is.st _) (AllSt.cons (Is.st _) (AllSt.cons (Is.st _) (AllSt.cons (Is.st _) (AllSt.cons (Is.st _) (AllSt.cons ExD.st (AllSt.cons (Is.st _) (AllSt.cons (Is.st _) (AllSt.cons (Is.st _) (AllSt.cons (Is.st _) (AllSt.cons (Is.st _) (AllSt.cons (Is.st _) (AllSt.cons (Is.st _) (AllSt.cons ExD.st (AllSt.cons (Is.st _) (AllSt.cons (Is.st _) (AllSt.cons (Is.st _) (AllSt.cons (Is.st _) (AllSt.cons (Is.st _) (AllSt.cons (Is.st _) (AllSt.cons (Is.st _) (AllSt.cons ExD.st (AllSt.cons (Is.st _) (AllSt.cons (Is.st _) (AllSt.cons (Is.st _) (AllSt.cons (Is.st _) (AllSt.nil))))))))))))))))))))))))))))))
  · simp only [List.take_succ_cons, List.take_zero]
    refine ObL.cons trivial (fun v ρ w hx hd S => op_loadV _ _ rfl _ Try.underlying26 rfl info_expr (S.out rfl ((VarP.st (Is.st _)) _ _ _ hx h2))) ?_
    refine ObL.cons trivial (fun v ρ w hx hd S => op_loadV _ _ rfl _ Try.underlying26 rfl info_expr (S.out rfl ((VarP.st (Is.st _)) _ _ _ hx h3))) ?_
    refine ObL.cons trivial (fun v ρ w hx hd S => op_pair 5 (by constructor <;> decide) rfl S (d := 1) (a := leaf 2 5) (b := leaf 2 6) (leaf_D (by constructor <;> decide) (by constructor <;> decide) (S.dep 0 rfl (hd 0 rfl))) (leaf_D (by constructor <;> decide) (by constructor <;> decide) (S.dep 1 rfl (hd 1 rfl)))) ?_
    refine ObL.cons trivial (fun v ρ w hx hd S => op_loadV _ _ rfl _ Try.underlying29 rfl info_env (S.out rfl ((VarP.st (Is.st _)) _ _ _ hx h1))) ?_
    refine ObL.cons trivial (fun v ρ w hx hd S => op_value ev0 ev0_ok rfl S (d := 2) (e := two 5 (leaf 2 5) (leaf 2 6)) (ExD.le (S.dep 2 rfl (hd 2 rfl)) (by decide)) (S.dep 3 rfl (hd 3 rfl)) 1800000 0 (by kernel_rfl) (by decide)) ?_
    refine ObL.cons trivial (fun v ρ w hx hd S => (op_neq rfl (S.dep 4 rfl (hd 4 rfl)) (S.c _)).mono fun u w1 hu => ⟨hu.1, hu.2.trans (congrArg Value.bool (by decide))⟩) ?_
    refine ObL.cons trivial (fun v ρ w hx hd S => op_move (p := Is (.bool false)) (.inl rfl) (S.dep 5 rfl (hd 5 rfl))) ?_
    refine ObL.cons ⟨rfl, fun w u h => h⟩ (fun v ρ w hx hd S => op_loadV _ _ rfl _ Try.underlying26 rfl info_expr (S.out rfl ((VarP.st (Is.st _)) _ _ _ hx h2))) ?_
    refine ObL.cons ⟨rfl, fun w u h => h⟩ (fun v ρ w hx hd S => op_integer 7 rfl S) ?_
    refine ObL.cons ⟨rfl, fun w u h => h⟩ (fun v ρ w hx hd S => op_pair 8 (by constructor <;> decide) rfl S (d := 1) (a := leaf 2 5) (b := leaf 1 7) (leaf_D (by constructor <;> decide) (by constructor <;> decide) (S.dep 7 rfl (hd 7 rfl))) (leaf_D (by constructor <;> decide) (by constructor <;> decide) (S.dep 8 rfl (hd 8 rfl)))) ?_
    refine ObL.cons ⟨rfl, fun w u h => h⟩ (fun v ρ w hx hd S => op_loadV _ _ rfl _ Try.underlying29 rfl info_env (S.out rfl ((VarP.st (Is.st _)) _ _ _ hx h1))) ?_
    refine ObL.cons ⟨rfl, fun w u h => h⟩ (fun v ρ w hx hd S => op_value ev0 ev0_ok rfl S (d := 2) (e := two 8 (leaf 2 5) (leaf 1 7)) (ExD.le (S.dep 9 rfl (hd 9 rfl)) (by decide)) (S.dep 10 rfl (hd 10 rfl)) 1714 0 (by kernel_rfl) (by decide)) ?_
    refine ObL.cons ⟨rfl, fun w u h => h⟩ (fun v ρ w hx hd S => (op_neq rfl (S.dep 11 rfl (hd 11 rfl)) (S.c _)).mono fun u w1 hu => ⟨hu.1, hu.2.trans (congrArg Value.bool (by decide))⟩) ?_
    refine ObL.cons trivial (fun v ρ w hx hd S => op_pick (p := Is (.bool false)) false rfl (S.dep 6 rfl (hd 6 rfl)) (S.dep 12 rfl (hd 12 rfl))) ?_
    refine ObL.cons trivial (fun v ρ w hx hd S => op_move (p := Is (.bool false)) (.inl rfl) (S.dep 13 rfl (hd 13 rfl))) ?_
    refine ObL.cons ⟨rfl, fun w u h => h⟩ (fun v ρ w hx hd S => op_loadV _ _ rfl _ Try.underlying26 rfl info_expr (S.out rfl ((VarP.st (Is.st _)) _ _ _ hx h2))) ?_
    refine ObL.cons ⟨rfl, fun w u h => h⟩ (fun v ρ w hx hd S => op_integer 7 rfl S) ?_
    refine ObL.cons ⟨rfl, fun w u h => h⟩ (fun v ρ w hx hd S => op_pair 9 (by constructor <;> decide) rfl S (d := 1) (a := leaf 2 5) (b := leaf 1 7) (leaf_D (by constructor <;> decide) (by constructor <;> decide) (S.dep 15 rfl (hd 15 rfl))) (leaf_D (by constructor <;> decide) (by constructor <;> decide) (S.dep 16 rfl (hd 16 rfl)))) ?_
    refine ObL.cons ⟨rfl, fun w u h => h⟩ (fun v ρ w hx hd S => op_loadV _ _ rfl _ Try.underlying29 rfl info_env (S.out rfl ((VarP.st (Is.st _)) _ _ _ hx h1))) ?_
    refine ObL.cons ⟨rfl, fun w u h => h⟩ (fun v ρ w hx hd S => op_value ev0 ev0_ok rfl S (d := 2) (e := two 9 (leaf 2 5) (leaf 1 7)) (ExD.le (S.dep 17 rfl (hd 17 rfl)) (by decide)) (S.dep 18 rfl (hd 18 rfl)) 1715 0 (by kernel_rfl) (by decide)) ?_
    refine ObL.cons ⟨rfl, fun w u h => h⟩ (fun v ρ w hx hd S => (op_neq rfl (S.dep 19 rfl (hd 19 rfl)) (S.c _)).mono fun u w1 hu => ⟨hu.1, hu.2.trans (congrArg Value.bool (by decide))⟩) ?_
    refine ObL.cons trivial (fun v ρ w hx hd S => op_pick (p := Is (.bool false)) false rfl (S.dep 14 rfl (hd 14 rfl)) (S.dep 20 rfl (hd 20 rfl))) ?_
    refine ObL.cons trivial (fun v ρ w hx hd S => op_move (p := Is (.bool false)) (.inl rfl) (S.dep 21 rfl (hd 21 rfl))) ?_
    refine ObL.cons ⟨rfl, fun w u h => h⟩ (fun v ρ w hx hd S => op_loadV _ _ rfl _ Try.underlying26 rfl info_expr (S.out rfl ((VarP.st (Is.st _)) _ _ _ hx h2))) ?_
    refine ObL.cons ⟨rfl, fun w u h => h⟩ (fun v ρ w hx hd S => op_integer 7 rfl S) ?_
    refine ObL.cons ⟨rfl, fun w u h => h⟩ (fun v ρ w hx hd S => op_pair 10 (by constructor <;> decide) rfl S (d := 1) (a := leaf 2 5) (b := leaf 1 7) (leaf_D (by constructor <;> decide) (by constructor <;> decide) (S.dep 23 rfl (hd 23 rfl))) (leaf_D (by constructor <;> decide) (by constructor <;> decide) (S.dep 24 rfl (hd 24 rfl)))) ?_
    refine ObL.cons ⟨rfl, fun w u h => h⟩ (fun v ρ w hx hd S => op_loadV _ _ rfl _ Try.underlying29 rfl info_env (S.out rfl ((VarP.st (Is.st _)) _ _ _ hx h1))) ?_
    refine ObL.cons ⟨rfl, fun w u h => h⟩ (fun v ρ w hx hd S => op_value ev0 ev0_ok rfl S (d := 2) (e := two 10 (leaf 2 5) (leaf 1 7)) (ExD.le (S.dep 25 rfl (hd 25 rfl)) (by decide)) (S.dep 26 rfl (hd 26 rfl)) 1714 0 (by kernel_rfl) (by decide)) ?_
    refine ObL.cons ⟨rfl, fun w u h => h⟩ (fun v ρ w hx hd S => (op_neq rfl (S.dep 27 rfl (hd 27 rfl)) (S.c _)).mono fun u w1 hu => ⟨hu.1, hu.2.trans (congrArg Value.bool (by decide))⟩) ?_
    refine ObL.cons trivial (fun v ρ w hx hd S => op_pick (p := Is (.bool false)) false rfl (S.dep 22 rfl (hd 22 rfl)) (S.dep 28 rfl (hd 28 rfl))) ?_
    exact ObL.nil
  · intro v a1 w hx hPP S hs hdf
    refine stable_all (by kernel_rfl) ?_
    exact hQ a1 w hx S.o hs hdf (S.dep 29 rfl (hPP 29 (by decide)))

noncomputable def sr15C : Code := ((Try.f9.body.bind (regionOf 15)).getD .skip)
def sr15D : List (Option Tmp) := [some 102, some 103, some 104, some 105, some 106, some 107, some 108, some 109, some 110, some 111, some 112, some 113, some 114, some 115, some 116, some 117, some 118, some 119, some 120, some 121, some 122, some 123, some 124, some 125, some 126, some 127, some 128, some 129, some 130, some 131, some 132, some 133, some 134, some 135, some 136, some 137, some 138, some 139, some 140, some 141, some 142, some 143, some 144, some 145, some 146, some 147, some 148, some 0]
def sr15P : List (World → Value → Prop) := [(ExD 11 (ch1)), (Is (.agg ev0.cells.toArray)), (Is (.int .i64 1)), (Is (.bool true)), (Is (.bool true)), (ExD 11 (ch2)), (Is (.agg ev0.cells.toArray)), (Is (.int .i64 (-181))), (Is (.bool true)), (Is (.bool true)), (Is (.bool true)), (Is (.agg (leafCells 1 1).toArray)), (Is (.agg (leafCells 2 6).toArray)), (Is (.agg (leafCells 1 150).toArray)), (ExD 2 (two 4 (leaf 2 6) (leaf 1 150))), (ExD 3 (two 8 (leaf 1 1) (two 4 (leaf 2 6) (leaf 1 150)))), (Is (.agg ev0.cells.toArray)), (Is (.int .i64 (-70))), (Is (.bool true)), (Is (.bool true)), (Is (.bool true)), (Is (.int .i64 0)), (Is (.bool true)), (Is (.bool true)), (Is (.bool true)), (Is (.bool true)), (Is (.bool true)), (Is (.bool true)), (Is (.int .i64 0)), (Is (.bool true)), (Is (.bool true)), (Is (.bool true)), (Is (.bool false)), (Is (.bool true)), (Is (.bool true)), (Is (.bool true)), (Is (.int .i64 0)), (Is (.bool true)), (Is (.bool true)), (Is (.bool true)), (Is (.int .i64 2)), (Is (.bool true)), (Is (.bool true)), (Is (.bool true)), (Is (.int .i64 1)), (Is (.bool true)), (Is (.bool true)), (Is (.bool true))]
set_option maxHeartbeats 2000000 in
set_option maxRecDepth 100000 in
theorem sr15 (Q : Exit → Act → World → Prop) (a0 : Act) (W : World) (hsz : a0.tmps.size = 149) (h1 : (VarP 17 (Is (.agg ev0.cells.toArray))) W (a0.eval (.tmp 1))) (h3 : (VarP 7 (Is (.agg (leafCells 2 6).toArray))) W (a0.eval (.tmp 3))) (h5 : (VarP 7 (ExD 11 (ch1))) W (a0.eval (.tmp 5))) (h6 : (VarP 7 (ExD 11 (ch2))) W (a0.eval (.tmp 6))) (h7 : (Is (.bool true)) W (a0.eval (.tmp 7))) (h8 : (Is (.int .i64 0)) W (a0.eval (.tmp 8))) (h9 : (Is (.bool false)) W (a0.eval (.tmp 9))) (h10 : (Is (.int .i64 0)) W (a0.eval (.tmp 10))) (h12 : (Is (.int .i64 2)) W (a0.eval (.tmp 12))) (h13 : (Is (.int .i64 1)) W (a0.eval (.tmp 13))) (h14 : (Is (.int .i64 0)) W (a0.eval (.tmp 14)))
    (hQ : ∀ a1 W1, Ext W W1 → (∀ t, sr15D.contains (some t) = false → a1.eval (.tmp t) = a0.eval (.tmp t)) → a1.tmps.size = 149 → a1.defers = a0.defers → (Is (.bool true)) W1 (a1.eval (.tmp 0)) → Q .normal a1 W1) : sr15C.wp Try.prog Q a0 W := by
  conv => arg 2; whnf
  refine wp_region_st 48 sr15D sr15P 149 (by kernel_rfl) (by kernel_rfl) hsz ?_ ?_ ?_
  · exact AllSt.cons ExD.st (AllSt.cons (Is.st _) (AllSt.cons (Is.st _) (AllSt.cons (Is.st _) (AllSt.cons (Is.st _) (AllSt.cons ExD.st (AllSt.cons (Is.st _) (AllSt.cons (Is.st _) (AllSt.cons (Is.st _) (AllSt.cons (Is.st _) (AllSt.cons (Is.st _) (AllSt.cons (Is.st _) (AllSt.cons (Is.st _) (AllSt.cons (Is.st _) (AllSt.cons ExD.st (AllSt.cons ExD.st (AllSt.cons (Is.st _) (AllSt.cons (Is.st _) (AllSt.cons (Is.st _) (AllSt.cons (Is.st _) (AllSt.cons (Is.st _) (AllSt.cons (Is.st _) (AllSt.cons (Is.st _) (AllSt.cons (Is.st _) (AllSt.cons (Is.st _) (AllSt.cons (Is.st _) (AllSt.cons (Is.st _) (AllSt.cons (Is.st _) (AllSt.cons (Is.st _) (AllSt.cons (Is.st _) (AllSt.cons (Is.st _) (AllSt.cons (Is.st _) (AllSt.cons (Is.st _) (AllSt.cons (Is.st _) (AllSt.cons (Is.st _) (AllSt.cons (Is.st _) (AllSt.cons (Is.st _) (AllSt.cons (Is.st _) (AllSt.cons (Is.st _) (AllSt.cons (Is.st _) (AllSt.cons (Is.st _) (AllSt.cons (Is.st _) (AllSt.cons (Is.st _) (AllSt.cons (Is.st _) (AllSt.cons (Is.st _) (AllSt.cons (Is.st _) (AllSt.cons (Is.st _) (AllSt.cons (Is.st _) (AllSt.nil))))))))))))))))))))))))))))))))))))))))))))))))
  · simp only [List.take_succ_cons, List.take_zero]
    refine ObL.cons trivial (fun v ρ w hx hd S => op_loadV _ _ rfl _ Try.underlying26 rfl info_expr (S.out rfl ((VarP.st ExD.st) _ _ _ hx h5))) ?_
    refine ObL.cons trivial (fun v ρ w hx hd S => op_loadV _ _ rfl _ Try.underlying29 rfl info_env (S.out rfl ((VarP.st (Is.st _)) _ _ _ hx h1))) ?_
    refine ObL.cons trivial (fun v ρ w hx hd S => op_value ev0 ev0_ok rfl S (d := 11) (e := ch1) (ExD.le (S.dep 0 rfl (hd 0 rfl)) (by decide)) (S.dep 1 rfl (hd 1 rfl)) 1 0 (by kernel_rfl) (by decide)) ?_
    refine ObL.cons trivial (fun v ρ w hx hd S => (op_eql rfl (S.dep 2 rfl (hd 2 rfl)) (S.c _)).mono fun u w1 hu => ⟨hu.1, hu.2.trans (congrArg Value.bool (by decide))⟩) ?_
    refine ObL.cons trivial (fun v ρ w hx hd S => op_move (p := Is (.bool true)) (.inl rfl) (S.dep 3 rfl (hd 3 rfl))) ?_
    refine ObL.cons ⟨rfl, fun w u h => h⟩ (fun v ρ w hx hd S => op_loadV _ _ rfl _ Try.underlying26 rfl info_expr (S.out rfl ((VarP.st ExD.st) _ _ _ hx h6))) ?_
    refine ObL.cons ⟨rfl, fun w u h => h⟩ (fun v ρ w hx hd S => op_loadV _ _ rfl _ Try.underlying29 rfl info_env (S.out rfl ((VarP.st (Is.st _)) _ _ _ hx h1))) ?_
    refine ObL.cons ⟨rfl, fun w u h => h⟩ (fun v ρ w hx hd S => op_value ev0 ev0_ok rfl S (d := 11) (e := ch2) (ExD.le (S.dep 5 rfl (hd 5 rfl)) (by decide)) (S.dep 6 rfl (hd 6 rfl)) 0 181 (by kernel_rfl) (by decide)) ?_
    refine ObL.cons ⟨rfl, fun w u h => h⟩ (fun v ρ w hx hd S => (op_eql rfl (S.dep 7 rfl (hd 7 rfl)) (S.c _)).mono fun u w1 hu => ⟨hu.1, hu.2.trans (congrArg Value.bool (by decide))⟩) ?_
    refine ObL.cons trivial (fun v ρ w hx hd S => op_pick (p := Is (.bool true)) true rfl (S.dep 4 rfl (hd 4 rfl)) (S.dep 8 rfl (hd 8 rfl))) ?_
    refine ObL.cons trivial (fun v ρ w hx hd S => op_move (p := Is (.bool true)) (.inl rfl) (S.dep 9 rfl (hd 9 rfl))) ?_
    refine ObL.cons ⟨rfl, fun w u h => h⟩ (fun v ρ w hx hd S => op_integer 1 rfl S) ?_
    refine ObL.cons ⟨rfl, fun w u h => h⟩ (fun v ρ w hx hd S => op_loadV _ _ rfl _ Try.underlying26 rfl info_expr (S.out rfl ((VarP.st (Is.st _)) _ _ _ hx h3))) ?_
    refine ObL.cons ⟨rfl, fun w u h => h⟩ (fun v ρ w hx hd S => op_integer 150 rfl S) ?_
    refine ObL.cons ⟨rfl, fun w u h => h⟩ (fun v ρ w hx hd S => op_pair 4 (by constructor <;> decide) rfl S (d := 1) (a := leaf 2 6) (b := leaf 1 150) (leaf_D (by constructor <;> decide) (by constructor <;> decide) (S.dep 12 rfl (hd 12 rfl))) (leaf_D (by constructor <;> decide) (by constructor <;> decide) (S.dep 13 rfl (hd 13 rfl)))) ?_
    refine ObL.cons ⟨rfl, fun w u h => h⟩ (fun v ρ w hx hd S => op_pair 8 (by constructor <;> decide) rfl S (d := 2) (a := leaf 1 1) (b := two 4 (leaf 2 6) (leaf 1 150)) (leaf_D (by constructor <;> decide) (by constructor <;> decide) (S.dep 11 rfl (hd 11 rfl))) (ExD.le (S.dep 14 rfl (hd 14 rfl)) (by decide))) ?_
    refine ObL.cons ⟨rfl, fun w u h => h⟩ (fun v ρ w hx hd S => op_loadV _ _ rfl _ Try.underlying29 rfl info_env (S.out rfl ((VarP.st (Is.st _)) _ _ _ hx h1))) ?_
    refine ObL.cons ⟨rfl, fun w u h => h⟩ (fun v ρ w hx hd S => op_value ev0 ev0_ok rfl S (d := 3) (e := two 8 (leaf 1 1) (two 4 (leaf 2 6) (leaf 1 150))) (ExD.le (S.dep 15 rfl (hd 15 rfl)) (by decide)) (S.dep 16 rfl (hd 16 rfl)) 0 70 (by kernel_rfl) (by decide)) ?_
    refine ObL.cons ⟨rfl, fun w u h => h⟩ (fun v ρ w hx hd S => (op_eql rfl (S.dep 17 rfl (hd 17 rfl)) (S.c _)).mono fun u w1 hu => ⟨hu.1, hu.2.trans (congrArg Value.bool (by decide))⟩) ?_
    refine ObL.cons trivial (fun v ρ w hx hd S => op_pick (p := Is (.bool true)) true rfl (S.dep 10 rfl (hd 10 rfl)) (S.dep 18 rfl (hd 18 rfl))) ?_
    refine ObL.cons trivial (fun v ρ w hx hd S => op_move (p := Is (.bool true)) (.inl rfl) (S.dep 19 rfl (hd 19 rfl))) ?_
    refine ObL.cons ⟨rfl, fun w u h => h⟩ (fun v ρ w hx hd S => op_move (p := Is (.int .i64 0)) (.inl rfl) (S.out rfl ((Is.st _) _ _ _ hx h8))) ?_
    refine ObL.cons ⟨rfl, fun w u h => h⟩ (fun v ρ w hx hd S => (op_eql rfl (S.dep 21 rfl (hd 21 rfl)) (S.c _)).mono fun u w1 hu => ⟨hu.1, hu.2.trans (congrArg Value.bool (by decide))⟩) ?_
    refine ObL.cons trivial (fun v ρ w hx hd S => op_pick (p := Is (.bool true)) true rfl (S.dep 20 rfl (hd 20 rfl)) (S.dep 22 rfl (hd 22 rfl))) ?_
    refine ObL.cons trivial (fun v ρ w hx hd S => op_move (p := Is (.bool true)) (.inl rfl) (S.dep 23 rfl (hd 23 rfl))) ?_
    refine ObL.cons ⟨rfl, fun w u h => h⟩ (fun v ρ w hx hd S => op_move (p := Is (.bool true)) (.inl rfl) (S.out rfl ((Is.st _) _ _ _ hx h7))) ?_
    refine ObL.cons trivial (fun v ρ w hx hd S => op_pick (p := Is (.bool true)) true rfl (S.dep 24 rfl (hd 24 rfl)) (S.dep 25 rfl (hd 25 rfl))) ?_
    refine ObL.cons trivial (fun v ρ w hx hd S => op_move (p := Is (.bool true)) (.inl rfl) (S.dep 26 rfl (hd 26 rfl))) ?_
    refine ObL.cons ⟨rfl, fun w u h => h⟩ (fun v ρ w hx hd S => op_move (p := Is (.int .i64 0)) (.inl rfl) (S.out rfl ((Is.st _) _ _ _ hx h10))) ?_
    refine ObL.cons ⟨rfl, fun w u h => h⟩ (fun v ρ w hx hd S => (op_eql rfl (S.dep 28 rfl (hd 28 rfl)) (S.c _)).mono fun u w1 hu => ⟨hu.1, hu.2.trans (congrArg Value.bool (by decide))⟩) ?_
    refine ObL.cons trivial (fun v ρ w hx hd S => op_pick (p := Is (.bool true)) true rfl (S.dep 27 rfl (hd 27 rfl)) (S.dep 29 rfl (hd 29 rfl))) ?_
    refine ObL.cons trivial (fun v ρ w hx hd S => op_move (p := Is (.bool true)) (.inl rfl) (S.dep 30 rfl (hd 30 rfl))) ?_
    refine ObL.cons ⟨rfl, fun w u h => h⟩ (fun v ρ w hx hd S => op_move (p := Is (.bool false)) (.inl rfl) (S.out rfl ((Is.st _) _ _ _ hx h9))) ?_
    refine ObL.cons ⟨rfl, fun w u h => h⟩ (fun v ρ w hx hd S => op_not rfl (S.dep 32 rfl (hd 32 rfl))) ?_
    refine ObL.cons trivial (fun v ρ w hx hd S => op_pick (p := Is (.bool true)) true rfl (S.dep 31 rfl (hd 31 rfl)) (S.dep 33 rfl (hd 33 rfl))) ?_
    refine ObL.cons trivial (fun v ρ w hx hd S => op_move (p := Is (.bool true)) (.inl rfl) (S.dep 34 rfl (hd 34 rfl))) ?_
    refine ObL.cons ⟨rfl, fun w u h => h⟩ (fun v ρ w hx hd S => op_move (p := Is (.int .i64 0)) (.inl rfl) (S.out rfl ((Is.st _) _ _ _ hx h14))) ?_
    refine ObL.cons ⟨rfl, fun w u h => h⟩ (fun v ρ w hx hd S => (op_eql rfl (S.dep 36 rfl (hd 36 rfl)) (S.c _)).mono fun u w1 hu => ⟨hu.1, hu.2.trans (congrArg Value.bool (by decide))⟩) ?_
    refine ObL.cons trivial (fun v ρ w hx hd S => op_pick (p := Is (.bool true)) true rfl (S.dep 35 rfl (hd 35 rfl)) (S.dep 37 rfl (hd 37 rfl))) ?_
    refine ObL.cons trivial (fun v ρ w hx hd S => op_move (p := Is (.bool true)) (.inl rfl) (S.dep 38 rfl (hd 38 rfl))) ?_
    refine ObL.cons ⟨rfl, fun w u h => h⟩ (fun v ρ w hx hd S => op_move (p := Is (.int .i64 2)) (.inl rfl) (S.out rfl ((Is.st _) _ _ _ hx h12))) ?_
    refine ObL.cons ⟨rfl, fun w u h => h⟩ (fun v ρ w hx hd S => (op_eql rfl (S.dep 40 rfl (hd 40 rfl)) (S.c _)).mono fun u w1 hu => ⟨hu.1, hu.2.trans (congrArg Value.bool (by decide))⟩) ?_
    refine ObL.cons trivial (fun v ρ w hx hd S => op_pick (p := Is (.bool true)) true rfl (S.dep 39 rfl (hd 39 rfl)) (S.dep 41 rfl (hd 41 rfl))) ?_
    refine ObL.cons trivial (fun v ρ w hx hd S => op_move (p := Is (.bool true)) (.inl rfl) (S.dep 42 rfl (hd 42 rfl))) ?_
    refine ObL.cons ⟨rfl, fun w u h => h⟩ (fun v ρ w hx hd S => op_move (p := Is (.int .i64 1)) (.inl rfl) (S.out rfl ((Is.st _) _ _ _ hx h13))) ?_
    refine ObL.cons ⟨rfl, fun w u h => h⟩ (fun v ρ w hx hd S => (op_eql rfl (S.dep 44 rfl (hd 44 rfl)) (S.c _)).mono fun u w1 hu => ⟨hu.1, hu.2.trans (congrArg Value.bool (by decide))⟩) ?_
    refine ObL.cons trivial (fun v ρ w hx hd S => op_pick (p := Is (.bool true)) true rfl (S.dep 43 rfl (hd 43 rfl)) (S.dep 45 rfl (hd 45 rfl))) ?_
    refine ObL.cons trivial (fun v ρ w hx hd S => op_move (p := Is (.bool true)) (.inr rfl) (S.dep 46 rfl (hd 46 rfl))) ?_
    exact ObL.nil
  · intro v a1 w hx hPP S hs hdf
    refine stable_all (by kernel_rfl) ?_
    exact hQ a1 w hx S.o hs hdf (S.dep 47 rfl (hPP 47 (by decide)))

end Go.Proofs.Ytophdbbbojnobaa
