/- A symbolic executor, part B: what the symbolic values mean; memory; the relation of two worlds. -/
import Derived.Test.YtcaomfbcchemnaaDoorEngA
import Derived.Deep.MidRow
import Derived.Great.BuildSlice
import Derived.Lib.Hide
namespace Go.Proofs.YtcaomfbcchemnaaDoor
open Go.RowKit
set_option linter.unusedVariables false

/-- Memory that nobody writes any more: cells and maps. -/
structure GH where
  cell : Nat → Nat → Option Value
  obj : Nat → Option (Array MapEntry)

structure GH.le (g g' : GH) : Prop where
  c : ∀ r o v, g.cell r o = some v → g'.cell r o = some v
  m : ∀ r es, g.obj r = some es → g'.obj r = some es
theorem GH.le.refl (g : GH) : g.le g := ⟨fun _ _ _ h => h, fun _ _ h => h⟩
theorem GH.le.trans {a b c : GH} (h : a.le b) (k : b.le c) : a.le c := ⟨fun r o v x => k.c r o v (h.c r o v x), fun r es x => k.m r es (h.m r es x)⟩

/-- where the followed blocks lie, and how many cells they have -/
abbrev Pl := Nat → Option (Nat × Nat)
def Pl.le (σ σ' : Pl) : Prop := ∀ b p, σ b = some p → σ' b = some p
theorem Pl.le.refl (σ : Pl) : Pl.le σ σ := fun _ _ h => h
theorem Pl.le.trans {a b c : Pl} (h : Pl.le a b) (k : Pl.le b c) : Pl.le a c := fun x p e => k x p (h x p e)

section
variable {Y : Thy}

/-- a key of this kind: a number, or a string -/
def KeyIs (q : Option IntKind) (k : Value) : Prop := match q with | some kd => ∃ b, k = .int kd b | none => ∃ s, k = .string s
inductive Den (E : Eng Y) (σ : Pl) (g : GH) : SV Y → Value → Prop
  | unk (v) : Den E σ g .unk v
  | val (v) : Den E σ g (.val v) v
  | int (l k n) : Den E σ g (.int l k n) (.int k n)
  | bool (l b) : Den E σ g (.bool l b) (.bool b)
  | str (l s) : Den E σ g (.str l s) (.string s)
  | ptr {b off r z : Nat} (h : σ b = some (r, z)) : Den E σ g (.ptr b off) (.pointer (some ⟨r, off, none⟩))
  | eptr {b i w off r z : Nat} (h : σ b = some (r, z)) : Den E σ g (.eptr b i w off) (.pointer (some ⟨r, i * w + off, none⟩))
  | pptr {th : Y.Th} {x : Y.dom th} {off r o : Nat} (c : Nat → Value) (hc : ∀ j, j < (E.enc th x).length → g.cell r (o + j) = some (c j))
      (hd : ∀ j sv, (E.enc th x)[j]? = some sv → Den E σ g sv (c j)) : Den E σ g (.pptr th x off) (.pointer (some ⟨r, o + off, none⟩))
  | sl {b off len w c r z : Nat} {cap : Option Nat} (h : σ b = some (r, z)) (hz : (off + c) * w ≤ z) (hl : len ≤ c) (hm : c ≤ maxLen) (hc : ∀ m, cap = some m → c = m) :
      Den E σ g (.sl b off len w cap) (.slice (some ⟨r, off * w, none⟩) len c)
  | psl {th : Y.Th} {l : List (Y.dom th)} {full : Bool} {base : Option Addr} {c : Nat} (cv : Nat → Nat → Value) (hl : l.length ≤ c) (hm : c ≤ maxLen) (hf : full = true → c = l.length) (hn : base = none → c = 0)
      (hb : 0 < l.length → ∃ r o, base = some ⟨r, o, none⟩ ∧ ∀ i x, l[i]? = some x → ∀ j, j < (E.enc th x).length → g.cell r (o + i * E.w th + j) = some (cv i j))
      (hd : ∀ i x, l[i]? = some x → ∀ j sv, (E.enc th x)[j]? = some sv → Den E σ g sv (cv i j)) : Den E σ g (.psl th l full) (.slice base l.length c)
  | agg {cs : List (SV Y)} {arr : Array Value} (c : Nat → Value) (hs : arr.size = cs.length) (hc : ∀ j, j < cs.length → arr[j]? = some (c j)) (hd : ∀ j sv, cs[j]? = some sv → Den E σ g sv (c j)) : Den E σ g (.agg cs) (.agg arr)
  | tup {cs : List (SV Y)} {arr : Array Value} (c : Nat → Value) (hs : arr.size = cs.length) (hc : ∀ j, j < cs.length → arr[j]? = some (c j)) (hd : ∀ j sv, cs[j]? = some sv → Den E σ g sv (c j)) : Den E σ g (.tup cs) (.tuple arr)
  | fn {f : Fn} {a b : List (SV Y)} {va vb : Array Value} (ca cb : Nat → Value) (hsa : va.size = a.length) (hca : ∀ j, j < a.length → va[j]? = some (ca j)) (hda : ∀ j sv, a[j]? = some sv → Den E σ g sv (ca j))
      (hsb : vb.size = b.length) (hcb : ∀ j, j < b.length → vb[j]? = some (cb j)) (hdb : ∀ j sv, b[j]? = some sv → Den E σ g sv (cb j)) : Den E σ g (.fn f a b) (.func f va vb)
  | map {b r z : Nat} (h : σ b = some (r, z)) : Den E σ g (.map b) (.map (some r))
  | pmap {es : List (Value × SV Y)} {r : Nat} {ents : Array MapEntry} (c : Nat → Value) (q : IntKind) (hg : g.obj r = some ents) (hq : ∀ (j : Nat) (k : Value) (sv : SV Y), es[j]? = some (k, sv) → KeyIs (some q) k)
      (hn : ∀ (j j' : Nat) (k : Value) (sv sv' : SV Y), es[j]? = some (k, sv) → es[j']? = some (k, sv') → j = j') (h1 : ∀ e ∈ ents.toList, ∃ (j : Nat) (sv : SV Y), es[j]? = some (e.key, sv) ∧ e.val = c j) (h2 : ∀ (j : Nat) (k : Value) (sv : SV Y), es[j]? = some (k, sv) → ∃ e ∈ ents.toList, e.key = k)
      (hd : ∀ (j : Nat) (k : Value) (sv : SV Y), es[j]? = some (k, sv) → Den E σ g sv (c j)) : Den E σ g (.pmap es) (.map (some r))
  | iface {t : TypeId} {sv : SV Y} {v : Value} (h : Den E σ g sv v) : Den E σ g (.iface t sv) (.iface t v)

theorem Den.mono {E : Eng Y} {σ σ' : Pl} {g g' : GH} (hσ : Pl.le σ σ') (hg : g.le g') {sv : SV Y} {v : Value} (h : Den E σ g sv v) : Den E σ' g' sv v := by
  induction h with
  | unk v => exact .unk v
  | val v => exact .val v
  | int l k n => exact .int l k n
  | bool l b => exact .bool l b
  | str l s => exact .str l s
  | ptr h => exact .ptr (hσ _ _ h)
  | eptr h => exact .eptr (hσ _ _ h)
  | pptr c hc _ ih => exact .pptr c (fun j hj => hg.c _ _ _ (hc j hj)) ih
  | sl h hz hl hm hc => exact .sl (hσ _ _ h) hz hl hm hc
  | psl cv hl hm hf hn hb _ ih => exact .psl cv hl hm hf hn (fun hp => let ⟨r, o, e, h⟩ := hb hp; ⟨r, o, e, fun i x hx j hj => hg.c _ _ _ (h i x hx j hj)⟩) ih
  | agg c hs hc _ ih => exact .agg c hs hc ih
  | tup c hs hc _ ih => exact .tup c hs hc ih
  | fn ca cb hsa hca _ hsb hcb _ iha ihb => exact .fn ca cb hsa hca iha hsb hcb ihb
  | map h => exact .map (hσ _ _ h)
  | pmap c q ho hq hn h1 h2 _ ih => exact .pmap c q (hg.m _ _ ho) hq hn h1 h2 ih
  | iface _ ih => exact .iface ih

/-- the cells of a block -/
def Blk.cells (E : Eng Y) : Blk Y → List (SV Y)
  | .raw cs _ _ => cs
  | .rows th l _ => l.flatMap (E.enc th)
  | .map _ => []
/-- from this cell on it may be written -/
def Blk.fzc (E : Eng Y) : Blk Y → Nat
  | .raw _ fz _ => fz
  | .rows th _ fz => fz * E.w th
  | .map _ => 0

/-- Two lists agree. -/
def DenL (E : Eng Y) (σ : Pl) (g : GH) (cs : List (SV Y)) (vs : List Value) : Prop := cs.length = vs.length ∧ ∀ (j : Nat) sv v, cs[j]? = some sv → vs[j]? = some v → Den E σ g sv v

/-- the type with which the block was made -/
def ElOk (E : Eng Y) (e : TypeId) : Blk Y → Prop
  | .raw _ _ (some th) => e = E.el th
  | .rows th _ _ => e = E.el th
  | _ => True
def BlkOk (E : Eng Y) (σ : Pl) (g : GH) (w : World) (r z : Nat) : Blk Y → Prop
  | .map es => ∃ ents c, w.heap[r]? = some (.map ents c) ∧ ents.size = es.length ∧ ∀ (j : Nat) k sv, es[j]? = some (k, sv) → ∃ v bo, ents[j]? = some (MapEntry.mk k v bo) ∧ Den E σ g sv v
  | b => ∃ arr e, w.heap[r]? = some (.cells arr e (0, 0)) ∧ arr.size = z ∧ (b.cells E).length ≤ z ∧ (∀ (j : Nat) sv, (b.cells E)[j]? = some sv → ∃ v, arr[j]? = some v ∧ Den E σ g sv v) ∧ ElOk E e b

structure Inv (E : Eng Y) (B : Nat) (σ : Pl) (h : Hp Y) (g : GH) (w : World) : Prop where
  gc : ∀ r o v, g.cell r o = some v → w.cell? ⟨r, o, none⟩ = some v
  gm : ∀ r es, g.obj r = some es → ∃ c, w.heap[r]? = some (.map es c)
  blk : ∀ b x, h b = some x → ∃ r z, σ b = some (r, z) ∧ BlkOk E σ g w r z x
  inj : ∀ b b' r z z', h b ≠ none → h b' ≠ none → σ b = some (r, z) → σ b' = some (r, z') → b = b'
  base : ∀ b r z, σ b = some (r, z) → B ≤ r ∧ r < w.heap.size
  fz : ∀ b x r z o v, h b = some x → σ b = some (r, z) → g.cell r o = some v → o < x.fzc E
  fm : ∀ b x r z, h b = some x → σ b = some (r, z) → g.obj r = none
  glob : ∀ n sv, E.glob n = some sv → ∃ v, g.cell n 0 = some v ∧ Den E (fun _ => none) g sv v

/-- What an operation may do to memory. -/
structure Stp (i n : Nat) (mods : List Nat) (σ : Pl) (g : GH) (w : World) (σ' : Pl) (g' : GH) (w' : World) : Prop where
  sig : Pl.le σ σ'
  snew : ∀ b p, σ' b = some p → σ b = some p ∨ (i ≤ b ∧ b < i + n)
  gle : g.le g'
  gcnew : ∀ r o v, g'.cell r o = some v → g.cell r o = some v ∨ w.heap.size ≤ r ∨ ∃ b ∈ mods, ∃ z, σ b = some (r, z)
  gmnew : ∀ r es, g'.obj r = some es → g.obj r = some es ∨ w.heap.size ≤ r
  heap : ∀ r, r < w.heap.size → (∀ b ∈ mods, ∀ z, σ b ≠ some (r, z)) → w'.heap[r]? = w.heap[r]?
  size : w.heap.size ≤ w'.heap.size
  os : w'.os = w.os
  tape : w'.tape = w.tape
  output : w'.output = w.output
  blk : ∀ b r z, σ b = none → σ' b = some (r, z) → w.heap.size ≤ r ∨ ∃ b' ∈ mods, ∃ z', σ b' = some (r, z')

theorem Stp.refl (i : Nat) (σ : Pl) (g : GH) (w : World) : Stp i 0 [] σ g w σ g w :=
  ⟨.refl _, fun _ _ h => .inl h, .refl _, fun _ _ _ h => .inl h, fun _ _ h => .inl h, fun _ _ _ => rfl, Nat.le_refl _, rfl, rfl, rfl, fun _ _ _ h k => by rw [h] at k; cases k⟩

structure EngOk (E : Eng Y) : Prop where
  ty : ∀ t i, E.ty t = some i → E.P.underlying t = some i.d ∧ ∃ info, E.P.info? t = some info ∧ info.size = i.size ∧ info.bytes = i.bytes ∧ info.zero = some i.zero
  enc : ∀ th x, (E.enc th x).length = E.w th
  pos : ∀ th, 0 < E.w th
  dec : ∀ th cs x, E.dec th cs = some x → cs.length = E.w th ∧ ∀ σ g (j : Nat) sv sv' v, cs[j]? = some sv → (E.enc th x)[j]? = some sv' → Den E σ g sv v → Den E σ g sv' v
  leaf : ∀ th x, leaves (E.enc th x) = true
  thOf : ∀ el th i, E.thOf el = some th → E.ty el = some i → i.size = E.w th
  encI : ∀ i th x, nidL i (E.enc th x) = true
  mix : E.P.follows .mixedOrders = true
  eqs : ∀ t, memB t E.eqs = true → E.P.stoodInHeld t = false ∧ E.P.eqGuardType E.P.depth t = false

theorem den_leaf {E : Eng Y} {σ : Pl} {g : GH} {sv : SV Y} {v : Value} (hl : leaf sv = true) (h : Den E σ g sv v) : v.oneCell' = true := by
  cases h <;> first | rfl | (simp [leaf] at hl; done) | (cases v <;> first | rfl | (simp [leaf, leafV] at hl; done))

theorem den_ofLeaf (E : Eng Y) (σ : Pl) (g : GH) (v : Value) : Den E σ g (ofLeaf v) v := by
  cases v <;> first | exact .int _ _ _ | exact .bool _ _ | exact .str _ _ | exact .val _
theorem den_ofVal (E : Eng Y) (σ : Pl) (g : GH) (v : Value) : Den E σ g (ofVal v) v := by
  cases v with
  | agg cs =>
    refine .agg (fun j => cs.toList.getD j undef) (by simp) (fun j hj => ?_) (fun j sv h => ?_)
    · have hj' : j < cs.size := by simpa using hj
      simp [List.getD_eq_getElem?_getD, hj']
    · rw [List.getElem?_map] at h
      obtain ⟨u, hu, rfl⟩ := Option.map_eq_some_iff.1 h
      rw [List.getD_eq_getElem?_getD, hu]
      exact den_ofLeaf E σ g u
  | _ => simp only [ofVal]; exact den_ofLeaf E σ g _
end
end Go.Proofs.YtcaomfbcchemnaaDoor
