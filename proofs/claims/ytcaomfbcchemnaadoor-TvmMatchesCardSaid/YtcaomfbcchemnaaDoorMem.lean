/- Memory that only grows: Ext w w' says that w' holds all that w holds, unchanged. Small facts for walks. -/
import Derived.WalkKit
import Derived.WalkSpells
import Derived.WalkLawsBesides
import Derived.Lib.Hide
namespace Go.Proofs.YtcaomfbcchemnaaDoor
open Go.RowKit

/-- w' has all that w has, unchanged -/
def Ext (w w' : World) : Prop := Below w.heap.size w w'
theorem Ext.refl (w : World) : Ext w w := Below.refl _ _
theorem Ext.size {w w' : World} (h : Ext w w') : w.heap.size ≤ w'.heap.size := Below.size h
theorem Ext.trans {a b c : World} (h : Ext a b) (k : Ext b c) : Ext a c := Below.trans h (Below.mono k (Below.size h))
theorem Ext.alloc {a w : World} (h : Ext a w) (o : Obj) : Ext a (w.alloc o) := Below.alloc h (Below.size h) o
theorem Ext.drew {a w : World} (h : Ext a w) : Ext a w.drew := Below.drew h
theorem Ext.drewN {a w : World} (h : Ext a w) (n : Nat) : Ext a (w.drewN n) := ⟨h.os, h.tape, h.output, h.size, h.block⟩
theorem Ext.setCell {a w : World} (h : Ext a w) {p : Addr} (hp : a.heap.size ≤ p.block) (u : Value) : Ext a (w.setCell p u) := Below.setCell h hp u
theorem Ext.cell {w w' : World} (h : Ext w w') {p : Addr} {v : Value} (hp : w.cell? p = some v) : w'.cell? p = some v :=
  (Below.cell h (block_lt_of_cell hp)).trans hp
theorem Ext.cell_eq {w w' : World} (h : Ext w w') {p : Addr} (hp : p.block < w.heap.size) : w'.cell? p = w.cell? p := Below.cell h hp
theorem Ext.frozen_eq {w w' : World} (h : Ext w w') {p : Addr} (hp : p.block < w.heap.size) : w'.frozen? p = w.frozen? p := Below.frozen h hp
theorem Ext.block {w w' : World} (h : Ext w w') {k : Nat} (hk : k < w.heap.size) : w'.heap[k]? = w.heap[k]? := Below.block h k hk
theorem Ext.cells {w w' : World} (h : Ext w w') : (∀ b o, b < w.heap.size → w'.cell? ⟨b, o, none⟩ = w.cell? ⟨b, o, none⟩) ∧ (∀ b o, b < w.heap.size → w'.frozen? ⟨b, o, none⟩ = w.frozen? ⟨b, o, none⟩) :=
  ⟨fun b o hb => Below.cell (p := ⟨b, o, none⟩) h hb, fun b o hb => Below.frozen (p := ⟨b, o, none⟩) h hb⟩

theorem ret_int {k : IntKind} {a b : Int} (h : a = b) : Ending.returned (.int k a) = .returned (.int k b) := by rw [h]
theorem ret_bool {a b : Bool} (h : a = b) : Ending.returned (.bool a) = .returned (.bool b) := by rw [h]
theorem ret_int2 {k j : IntKind} {a b c d : Int} (h : a = b) (h' : c = d) : Ending.returned (.tuple #[.int k a, .int j c]) = .returned (.tuple #[.int k b, .int j d]) := by rw [h, h']
theorem ret_bi {k : IntKind} {a b : Bool} {c d : Int} (h : a = b) (h' : c = d) : Ending.returned (.tuple #[.bool a, .int k c]) = .returned (.tuple #[.bool b, .int k d]) := by rw [h, h']
theorem ret_int3 {k j m : IntKind} {a b c d e f : Int} (h : a = b) (h' : c = d) (h'' : e = f) : Ending.returned (.tuple #[.int k a, .int j c, .int m e]) = .returned (.tuple #[.int k b, .int j d, .int m f]) := by rw [h, h', h'']
theorem ret_val2 {a b c d : Value} (h : a = b) (h' : c = d) : Ending.returned (.tuple #[a, c]) = .returned (.tuple #[b, d]) := by rw [h, h']
end Go.Proofs.YtcaomfbcchemnaaDoor
