/- A way of evaluating Go functions on abstract values: data, boxes (variables in memory) and rows (slices that the call itself makes); here: the values, and what it means that a value of the model is such a value. -/
import Derived.WalkKit
import Derived.WalkLawsBesides
import Derived.Deep.MidRow
import Derived.Maps.AppendAt
set_option linter.unusedVariables false
set_option linter.unusedSimpArgs false
namespace Go.PE
open Go

/-- Deep data: no memory. -/
inductive D where
  | int (k : IntKind) (n : Int)
  | bool (b : Bool)
  | str (s : List UInt8)
  | agg (cs : List D)
  | list (es : List (List D))
  | iface (t : TypeId) (d : D)
  | nilI
  | raw (v : Value)

/-- Abstract values of a call. -/
inductive AV where
  | undef
  | d (x : D)
  | agg (cs : List AV)
  | nilS
  | arr (id n : Nat)
  | ptr (id off : Nat)
  | cptr (cs : List D)
  | eptr (id n i off : Nat)
  | tup (cs : List AV)
  | iface (t : TypeId) (x : AV)
  | fn (f : Fn) (first caps : List AV)

/-- A row that the call owns: its elements, cell by cell; shared: it has been handed on, nothing in it may be overwritten. -/
structure Arr where
  sz : Nat
  ety : TypeId
  es : List (List D)
  sh : Bool

structure St where
  t : List AV
  b : List (List AV)
  r : List Arr

inductive Ex where
  | normal
  | exit (id : Nat)
  | ret
  | panic (x : AV)

/-- Where boxes and rows lie; and cells of the caller that no data may lie in. -/
structure Mem where
  bb : List Nat
  av : List Value
  no : Addr → Prop

def Mem.blk (M : Mem) (i : Nat) : Nat := M.bb.getD i 0
def Mem.row (M : Mem) (i : Nat) : Value := M.av.getD i .nilIface

/-- A cell that nobody overwrites. -/
def Okc (M : Mem) (r : List Arr) (a : Addr) : Prop :=
  ((∀ i, i < M.bb.length → M.blk i ≠ a.block) ∧ ¬ M.no a) ∧ ∀ k A, r[k]? = some A → (M.row k).ownBlock = some a.block → A.sh = true ∧ a.off < A.es.length * A.sz

def lenOk (n c : Nat) : Prop := n ≤ c ∧ c ≤ maxLen

def RawOk : Value → Prop
  | .pointer none | .nilFunc | .map none | .chan none => True
  | .func (.func _) f c => f = #[] ∧ c = #[]
  | _ => False

/-- A value is such data. -/
inductive Rep (w : World) (ok : Addr → Prop) : Value → D → Prop where
  | int (k : IntKind) (n : Int) : Rep w ok (.int k n) (.int k n)
  | bool (b : Bool) : Rep w ok (.bool b) (.bool b)
  | str (s : ByteArray) : Rep w ok (.string s) (.str s.data.toList)
  | agg (vs : Array Value) (cs : List D) (hs : vs.size = cs.length) (h1 : ∀ i, i < cs.length → (vs.getD i undef).oneCell' = true) (h : ∀ i, i < cs.length → Rep w ok (vs.getD i undef) (cs.getD i .nilI)) : Rep w ok (.agg vs) (.agg cs)
  | list (A : Option Addr) (n c sz : Nat) (es : List (List D)) (f : Nat → Nat → Value) (hn : n = es.length) (hc : lenOk n c)
      (hz : ∀ i, i < n → (es.getD i []).length = sz)
      (ha : 0 < n → ∃ a, A = some a ∧ a.spot = none ∧ ∀ i j, i < n → j < sz → w.cell? (a.add (i * sz + j)) = some (f i j) ∧ ok (a.add (i * sz + j)))
      (h1 : ∀ i j, i < n → j < sz → (f i j).oneCell' = true)
      (h : ∀ i j, i < n → j < sz → Rep w ok (f i j) ((es.getD i []).getD j .nilI)) : Rep w ok (.slice A n c) (.list es)
  | iface (t : TypeId) (v : Value) (d : D) (h : Rep w ok v d) : Rep w ok (.iface t v) (.iface t d)
  | nilI : Rep w ok .nilIface .nilI
  | raw (v : Value) (h : RawOk v) : Rep w ok v (.raw v)

theorem Rep.mono {w w' : World} {ok ok' : Addr → Prop} (hw : ∀ a u, ok a → w.cell? a = some u → w'.cell? a = some u ∧ ok' a) {v : Value} {x : D} (h : Rep w ok v x) : Rep w' ok' v x := by
  induction h with
  | int k n => exact .int k n
  | bool b => exact .bool b
  | str s => exact .str s
  | agg vs cs hs h1 _ ih => exact .agg vs cs hs h1 ih
  | list A n c sz es f hn hc hz ha h1 _ ih =>
    refine .list A n c sz es f hn hc hz (fun h0 => ?_) h1 ih
    obtain ⟨a, e, hsp, hcell⟩ := ha h0
    exact ⟨a, e, hsp, fun i j hi hj => hw _ _ (hcell i j hi hj).2 (hcell i j hi hj).1⟩
  | iface t v d _ ih => exact .iface t v d ih
  | nilI => exact .nilI
  | raw v h => exact .raw v h

/-- A value is such an abstract value. -/
inductive RepA (w : World) (M : Mem) (r : List Arr) : Value → AV → Prop where
  | undef (v : Value) : RepA w M r v .undef
  | d (v : Value) (x : D) (h : Rep w (Okc M r) v x) : RepA w M r v (.d x)
  | agg (vs : Array Value) (cs : List AV) (hs : vs.size = cs.length) (h1 : ∀ i, i < cs.length → (vs.getD i undef).oneCell' = true) (h : ∀ i, i < cs.length → RepA w M r (vs.getD i undef) (cs.getD i .undef)) : RepA w M r (.agg vs) (.agg cs)
  | nilS : RepA w M r (.slice none 0 0) .nilS
  | arr (v : Value) (id n : Nat) (h1 : v.oneCell' = true) (h : ∃ A, r[id]? = some A ∧ n ≤ A.es.length ∧ (n = A.es.length → v = M.row id)) : RepA w M r v (.arr id n)
  | ptr (id off : Nat) (h : id < M.bb.length) : RepA w M r (.pointer (some ⟨M.blk id, off, none⟩)) (.ptr id off)
  | cptr (a : Addr) (cs : List D) (f : Nat → Value) (hsp : a.spot = none) (hcell : ∀ j, j < cs.length → w.cell? (a.add j) = some (f j) ∧ Okc M r (a.add j))
      (h1 : ∀ j, j < cs.length → (f j).oneCell' = true) (h : ∀ j, j < cs.length → Rep w (Okc M r) (f j) (cs.getD j .nilI)) : RepA w M r (.pointer (some a)) (.cptr cs)
  | eptr (v : Value) (id n i off : Nat) (h1 : v.oneCell' = true) (h : ∃ A, r[id]? = some A ∧ n ≤ A.es.length ∧ (n = A.es.length → ∃ g, (M.row id).ownBlock = some g ∧ v = .pointer (some ⟨g, i * A.sz + off, none⟩))) : RepA w M r v (.eptr id n i off)
  | tup (vs : Array Value) (cs : List AV) (hs : vs.size = cs.length) (h : ∀ i, i < cs.length → RepA w M r (vs.getD i undef) (cs.getD i .undef)) : RepA w M r (.tuple vs) (.tup cs)
  | iface (t : TypeId) (v : Value) (x : AV) (h : RepA w M r v x) : RepA w M r (.iface t v) (.iface t x)
  | fn (f : Fn) (vs us : Array Value) (cs ds : List AV) (hs : vs.size = cs.length) (hs' : us.size = ds.length) (h : ∀ i, i < cs.length → RepA w M r (vs.getD i undef) (cs.getD i .undef)) (h' : ∀ i, i < ds.length → RepA w M r (us.getD i undef) (ds.getD i .undef)) : RepA w M r (.func f vs us) (.fn f cs ds)

/-- What may have turned so that all values stay what they were. -/
structure Chg (w : World) (M : Mem) (r : List Arr) (w' : World) (M' : Mem) (r' : List Arr) : Prop where
  cell : ∀ a u, Okc M r a → w.cell? a = some u → w'.cell? a = some u ∧ Okc M' r' a
  lb : M.bb.length ≤ M'.bb.length
  blk : ∀ i, i < M.bb.length → M'.blk i = M.blk i
  row : ∀ id A, r[id]? = some A → ∃ A', r'[id]? = some A' ∧ A.es.length ≤ A'.es.length ∧ A'.sz = A.sz ∧ (A'.es.length = A.es.length → M'.row id = M.row id)
  no : M'.no = M.no

theorem Chg.refl (w : World) (M : Mem) (r : List Arr) : Chg w M r w M r := ⟨fun _ _ h h' => ⟨h', h⟩, Nat.le_refl _, fun _ _ => rfl, fun _ A h => ⟨A, h, Nat.le_refl _, rfl, fun _ => rfl⟩, rfl⟩
theorem Chg.trans {w w' w'' : World} {M M' M'' : Mem} {r r' r'' : List Arr} (h : Chg w M r w' M' r') (k : Chg w' M' r' w'' M'' r'') : Chg w M r w'' M'' r'' := by
  refine ⟨fun a u ho hc => ?_, Nat.le_trans h.lb k.lb, fun i hi => (k.blk i (Nat.lt_of_lt_of_le hi h.lb)).trans (h.blk i hi), fun id A hA => ?_, k.no.trans h.no⟩
  · obtain ⟨h1, h2⟩ := h.cell a u ho hc
    exact k.cell a u h2 h1
  · obtain ⟨A', e', l', z', q'⟩ := h.row id A hA
    obtain ⟨A'', e'', l'', z'', q''⟩ := k.row id A' e'
    exact ⟨A'', e'', Nat.le_trans l' l'', z''.trans z', fun e => (q'' (by omega)).trans (q' (by omega))⟩

theorem RepA.mono {w w' : World} {M M' : Mem} {r r' : List Arr} (c : Chg w M r w' M' r') {v : Value} {x : AV} (h : RepA w M r v x) : RepA w' M' r' v x := by
  induction h with
  | undef v => exact .undef v
  | d v x h => exact .d v x (h.mono c.cell)
  | agg vs cs hs h1 _ ih => exact .agg vs cs hs h1 ih
  | nilS => exact .nilS
  | arr v id n h1 h =>
    obtain ⟨A, e, hn, hv⟩ := h
    obtain ⟨A', e', hl, _, hr⟩ := c.row id A e
    exact .arr v id n h1 ⟨A', e', by omega, fun he => by rw [hr (by omega)]; exact hv (by omega)⟩
  | ptr id off h =>
    rw [← c.blk id h]
    exact .ptr id off (Nat.lt_of_lt_of_le h c.lb)
  | cptr a cs f hsp hcell h1 h => exact .cptr a cs f hsp (fun j hj => c.cell _ _ (hcell j hj).2 (hcell j hj).1) h1 (fun j hj => (h j hj).mono c.cell)
  | eptr v id n i off h1 h =>
    obtain ⟨A, e, hn, hv⟩ := h
    obtain ⟨A', e', hl, hz, hr⟩ := c.row id A e
    exact .eptr v id n i off h1 ⟨A', e', by omega, fun he => by rw [hr (by omega), hz]; exact hv (by omega)⟩
  | tup vs cs hs _ ih => exact .tup vs cs hs ih
  | iface t v x _ ih => exact .iface t v x ih
  | fn f vs us cs ds hs hs' _ _ ih ih' => exact .fn f vs us cs ds hs hs' ih ih'

/-- What was there when the call began is as it was, but for the blocks F. -/
structure Keep (w0 : World) (F : List Nat) (w : World) : Prop where
  os : w.os = w0.os
  tape : w.tape = w0.tape
  output : w.output = w0.output
  size : w0.heap.size ≤ w.heap.size
  block : ∀ k, k < w0.heap.size → k ∉ F → w.heap[k]? = w0.heap[k]?

theorem Keep.refl (w : World) (F : List Nat) : Keep w F w := ⟨rfl, rfl, rfl, Nat.le_refl _, fun _ _ _ => rfl⟩

/-- The state of a call, and the world. -/
structure Inv (w0 : World) (F : List Nat) (M : Mem) (b : List (List AV)) (r : List Arr) (w : World) : Prop where
  keep : Keep w0 F w
  lb : M.bb.length = b.length
  lr : M.av.length = r.length
  box : ∀ i cells, b[i]? = some cells → ∃ cs ty, w.heap[M.blk i]? = some (.cells cs ty (0, 0)) ∧ cs.size = cells.length ∧
    (∀ j, j < cells.length → (cs.getD j undef).oneCell' = true) ∧ ∀ j, j < cells.length → RepA w M r (cs.getD j undef) (cells.getD j .undef)
  row : ∀ i A, r[i]? = some A → 0 < A.sz ∧ (∀ e ∈ A.es, e.length = A.sz) ∧ ∃ xs, w.ownsRow 0 A.ety A.sz (M.row i) A.es.length xs ∧
    (∀ x ∈ xs, x.oneCell' = true) ∧ ∀ k j, k < A.es.length → j < A.sz → Rep w (Okc M r) (xs.getD (k * A.sz + j) undef) ((A.es.getD k []).getD j .nilI)
  fb : ∀ i, i < M.bb.length → M.blk i ∈ F ∨ w0.heap.size ≤ M.blk i
  fr : ∀ i g, (M.row i).ownBlock = some g → g ∈ F ∨ w0.heap.size ≤ g
  dbb : ∀ i j, i < M.bb.length → j < M.bb.length → M.blk i = M.blk j → i = j
  drr : ∀ i j g, i < M.av.length → j < M.av.length → (M.row i).ownBlock = some g → (M.row j).ownBlock = some g → i = j
  dbr : ∀ i j, i < M.bb.length → (M.row j).ownBlock ≠ some (M.blk i)
  no : ∀ a, M.no a → a.block < w0.heap.size ∧ ∀ i, (M.row i).ownBlock ≠ some a.block

/-- The frame. -/
def Rept (w : World) (M : Mem) (r : List Arr) (tmps : Array Value) (t : List AV) : Prop :=
  tmps.size = t.length ∧ ∀ i, i < t.length → RepA w M r (tmps.getD i undef) (t.getD i .undef)

theorem Rept.mono {w w' : World} {M M' : Mem} {r r' : List Arr} (c : Chg w M r w' M' r') {tmps : Array Value} {t : List AV} (h : Rept w M r tmps t) : Rept w' M' r' tmps t :=
  ⟨h.1, fun i hi => (h.2 i hi).mono c⟩

end Go.PE
