/- Joined: PeA, PeB, PeC, PeD, PeE, PeF, PeG, PeH, PeI, PeJ. -/
import Derived.WalkKit
import Derived.WalkLawsBesides
import Derived.Deep.MidRow
import Derived.Maps.AppendAt
import Derived.Deep.AppendSrc
import Derived.Great.BuildSlice
import Derived.Laws.StructEq
section
/- A way of evaluating Go functions on abstract values: data, boxes (variables in memory) and rows (slices that the call itself makes); here: the values, and what it means that a value of the model is such a value. -/
set_option linter.unusedVariables false
set_option linter.unusedSimpArgs false
namespace Go.PE
open Go

/-- Deep data: no memory. -/
inductive D where
  | int (k : IntKind) (n : Int)
  | bool (b : Bool)
  | str (s : List UInt8)
  | agg (cs : List D)
  | list (es : List (List D))
  | iface (t : TypeId) (d : D)
  | nilI
  | raw (v : Value)
  | ref (id n : Nat)

/-- Abstract values of a call. -/
inductive AV where
  | undef
  | d (x : D)
  | agg (cs : List AV)
  | nilS
  | arr (id n : Nat)
  | ptr (id off : Nat)
  | cptr (cs : List D)
  | eptr (id n i off : Nat)
  | tup (cs : List AV)
  | iface (t : TypeId) (x : AV)
  | fn (f : Fn) (first caps : List AV)
  /-- A slice over the whole of a box. -/
  | bsl (id n : Nat)
  /-- Data: a slice without room behind it. -/
  | full (es : List (List D))

/-- A row that the call owns: its elements, cell by cell; shared: it has been handed on, nothing in it may be overwritten. -/
structure Arr where
  sz : Nat
  ety : TypeId
  es : List (List D)
  sh : Bool
/-- Cells of an element; a row of slices some of which are rows of the call (sz = 0) has one. -/
def Arr.w (A : Arr) : Nat := if A.sz = 0 then 1 else A.sz

structure St where
  t : List AV
  b : List (List AV)
  r : List Arr

inductive Ex where
  | normal
  | exit (id : Nat)
  | ret
  | panic (x : AV)

/-- Where boxes and rows lie; and cells of the caller that no data may lie in. -/
structure Mem where
  bb : List Nat
  av : List Value
  no : Addr → Prop

def Mem.blk (M : Mem) (i : Nat) : Nat := M.bb.getD i 0
def Mem.row (M : Mem) (i : Nat) : Value := M.av.getD i .nilIface

/-- A slice that owns its row, from cell o of its block on. -/
def rowAt (w : World) (e : TypeId) (size : Nat) (v : Value) (n : Nat) (xs : List Value) : Prop :=
  xs.length = n * size ∧ ((v = .slice none 0 0 ∧ n = 0) ∨
    ∃ g cap cur o, v = .slice (some ⟨g, o, none⟩) n cap ∧ w.heap[g]? = some (.cells cur e (0, 0)) ∧ n ≤ cap ∧ cap ≤ maxLen ∧ o + cap * size ≤ cur.size ∧ (cur.toList.drop o).take (n * size) = xs)
def offV : Value → Nat
  | .slice (some a) _ _ => a.off
  | _ => 0
/-- A cell that nobody overwrites. -/
def Okc (M : Mem) (r : List Arr) (a : Addr) : Prop :=
  ((∀ i, i < M.bb.length → M.blk i ≠ a.block) ∧ ¬ M.no a) ∧ ∀ k A, r[k]? = some A → (M.row k).ownBlock = some a.block → A.sh = true ∧ a.off < offV (M.row k) + A.es.length * A.w

def lenOk (n c : Nat) : Prop := n ≤ c ∧ c ≤ maxLen

def RawOk : Value → Prop
  | .pointer none | .nilFunc | .map none | .chan none => True
  | .func (.func _) f c => f = #[] ∧ c = #[]
  | _ => False

/-- A value is such data. -/
inductive Rep (w : World) (ok : Addr → Prop) : Value → D → Prop where
  | int (k : IntKind) (n : Int) : Rep w ok (.int k n) (.int k n)
  | bool (b : Bool) : Rep w ok (.bool b) (.bool b)
  | str (s : ByteArray) : Rep w ok (.string s) (.str s.data.toList)
  | agg (vs : Array Value) (cs : List D) (hs : vs.size = cs.length) (h1 : ∀ i, i < cs.length → (vs.getD i undef).oneCell' = true) (h : ∀ i, i < cs.length → Rep w ok (vs.getD i undef) (cs.getD i .nilI)) : Rep w ok (.agg vs) (.agg cs)
  | list (A : Option Addr) (n c sz : Nat) (es : List (List D)) (f : Nat → Nat → Value) (hn : n = es.length) (hc : lenOk n c)
      (hz : ∀ i, i < n → (es.getD i []).length = sz)
      (ha : 0 < n → ∃ a, A = some a ∧ a.spot = none ∧ ∀ i j, i < n → j < sz → w.cell? (a.add (i * sz + j)) = some (f i j) ∧ ok (a.add (i * sz + j)))
      (h1 : ∀ i j, i < n → j < sz → (f i j).oneCell' = true)
      (h : ∀ i j, i < n → j < sz → Rep w ok (f i j) ((es.getD i []).getD j .nilI)) : Rep w ok (.slice A n c) (.list es)
  | iface (t : TypeId) (v : Value) (d : D) (h : Rep w ok v d) : Rep w ok (.iface t v) (.iface t d)
  | nilI : Rep w ok .nilIface .nilI
  | raw (v : Value) (h : RawOk v) : Rep w ok v (.raw v)

theorem Rep.mono {w w' : World} {ok ok' : Addr → Prop} (hw : ∀ a u, ok a → w.cell? a = some u → w'.cell? a = some u ∧ ok' a) {v : Value} {x : D} (h : Rep w ok v x) : Rep w' ok' v x := by
  induction h with
  | int k n => exact .int k n
  | bool b => exact .bool b
  | str s => exact .str s
  | agg vs cs hs h1 _ ih => exact .agg vs cs hs h1 ih
  | list A n c sz es f hn hc hz ha h1 _ ih =>
    refine .list A n c sz es f hn hc hz (fun h0 => ?_) h1 ih
    obtain ⟨a, e, hsp, hcell⟩ := ha h0
    exact ⟨a, e, hsp, fun i j hi hj => hw _ _ (hcell i j hi hj).2 (hcell i j hi hj).1⟩
  | iface t v d _ ih => exact .iface t v d ih
  | nilI => exact .nilI
  | raw v h => exact .raw v h

/-- A value is such an abstract value. -/
inductive RepA (w : World) (M : Mem) (r : List Arr) : Value → AV → Prop where
  | undef (v : Value) : RepA w M r v .undef
  | d (v : Value) (x : D) (h : Rep w (Okc M r) v x) : RepA w M r v (.d x)
  | agg (vs : Array Value) (cs : List AV) (hs : vs.size = cs.length) (h1 : ∀ i, i < cs.length → (vs.getD i undef).oneCell' = true) (h : ∀ i, i < cs.length → RepA w M r (vs.getD i undef) (cs.getD i .undef)) : RepA w M r (.agg vs) (.agg cs)
  | nilS : RepA w M r (.slice none 0 0) .nilS
  | arr (v : Value) (id n : Nat) (h1 : v.oneCell' = true) (h : ∃ A, r[id]? = some A ∧ n ≤ A.es.length ∧ (n = A.es.length → v = M.row id)) : RepA w M r v (.arr id n)
  | ptr (id off : Nat) (h : id < M.bb.length) : RepA w M r (.pointer (some ⟨M.blk id, off, none⟩)) (.ptr id off)
  | cptr (a : Addr) (cs : List D) (f : Nat → Value) (hsp : a.spot = none) (hcell : ∀ j, j < cs.length → w.cell? (a.add j) = some (f j) ∧ Okc M r (a.add j))
      (h1 : ∀ j, j < cs.length → (f j).oneCell' = true) (h : ∀ j, j < cs.length → Rep w (Okc M r) (f j) (cs.getD j .nilI)) : RepA w M r (.pointer (some a)) (.cptr cs)
  | eptr (v : Value) (id n i off : Nat) (h1 : v.oneCell' = true) (h : ∃ A, r[id]? = some A ∧ n ≤ A.es.length ∧ (n = A.es.length → ∃ g, (M.row id).ownBlock = some g ∧ v = .pointer (some ⟨g, offV (M.row id) + (i * A.w + off), none⟩))) : RepA w M r v (.eptr id n i off)
  | tup (vs : Array Value) (cs : List AV) (hs : vs.size = cs.length) (h : ∀ i, i < cs.length → RepA w M r (vs.getD i undef) (cs.getD i .undef)) : RepA w M r (.tuple vs) (.tup cs)
  | iface (t : TypeId) (v : Value) (x : AV) (h : RepA w M r v x) : RepA w M r (.iface t v) (.iface t x)
  | fn (f : Fn) (vs us : Array Value) (cs ds : List AV) (hs : vs.size = cs.length) (hs' : us.size = ds.length) (h : ∀ i, i < cs.length → RepA w M r (vs.getD i undef) (cs.getD i .undef)) (h' : ∀ i, i < ds.length → RepA w M r (us.getD i undef) (ds.getD i .undef)) : RepA w M r (.func f vs us) (.fn f cs ds)
  | bsl (id n : Nat) (h : id < M.bb.length) (hn : lenOk n n) : RepA w M r (.slice (some ⟨M.blk id, 0, none⟩) n n) (.bsl id n)
  | full (A : Option Addr) (n : Nat) (es : List (List D)) (h : Rep w (Okc M r) (.slice A n n) (.list es)) : RepA w M r (.slice A n n) (.full es)

/-- What may have turned so that all values stay what they were. -/
structure Chg (w : World) (M : Mem) (r : List Arr) (w' : World) (M' : Mem) (r' : List Arr) : Prop where
  cell : ∀ a u, Okc M r a → w.cell? a = some u → w'.cell? a = some u ∧ Okc M' r' a
  lb : M.bb.length ≤ M'.bb.length
  blk : ∀ i, i < M.bb.length → M'.blk i = M.blk i
  row : ∀ id A, r[id]? = some A → ∃ A', r'[id]? = some A' ∧ A.es.length ≤ A'.es.length ∧ A'.w = A.w ∧ (A'.es.length = A.es.length → M'.row id = M.row id)
  no : M'.no = M.no

theorem Chg.refl (w : World) (M : Mem) (r : List Arr) : Chg w M r w M r := ⟨fun _ _ h h' => ⟨h', h⟩, Nat.le_refl _, fun _ _ => rfl, fun _ A h => ⟨A, h, Nat.le_refl _, rfl, fun _ => rfl⟩, rfl⟩
theorem Chg.trans {w w' w'' : World} {M M' M'' : Mem} {r r' r'' : List Arr} (h : Chg w M r w' M' r') (k : Chg w' M' r' w'' M'' r'') : Chg w M r w'' M'' r'' := by
  refine ⟨fun a u ho hc => ?_, Nat.le_trans h.lb k.lb, fun i hi => (k.blk i (Nat.lt_of_lt_of_le hi h.lb)).trans (h.blk i hi), fun id A hA => ?_, k.no.trans h.no⟩
  · obtain ⟨h1, h2⟩ := h.cell a u ho hc
    exact k.cell a u h2 h1
  · obtain ⟨A', e', l', z', q'⟩ := h.row id A hA
    obtain ⟨A'', e'', l'', z'', q''⟩ := k.row id A' e'
    exact ⟨A'', e'', Nat.le_trans l' l'', z''.trans z', fun e => (q'' (by omega)).trans (q' (by omega))⟩

theorem RepA.mono {w w' : World} {M M' : Mem} {r r' : List Arr} (c : Chg w M r w' M' r') {v : Value} {x : AV} (h : RepA w M r v x) : RepA w' M' r' v x := by
  induction h with
  | undef v => exact .undef v
  | d v x h => exact .d v x (h.mono c.cell)
  | agg vs cs hs h1 _ ih => exact .agg vs cs hs h1 ih
  | nilS => exact .nilS
  | arr v id n h1 h =>
    obtain ⟨A, e, hn, hv⟩ := h
    obtain ⟨A', e', hl, _, hr⟩ := c.row id A e
    exact .arr v id n h1 ⟨A', e', by omega, fun he => by rw [hr (by omega)]; exact hv (by omega)⟩
  | ptr id off h =>
    rw [← c.blk id h]
    exact .ptr id off (Nat.lt_of_lt_of_le h c.lb)
  | cptr a cs f hsp hcell h1 h => exact .cptr a cs f hsp (fun j hj => c.cell _ _ (hcell j hj).2 (hcell j hj).1) h1 (fun j hj => (h j hj).mono c.cell)
  | eptr v id n i off h1 h =>
    obtain ⟨A, e, hn, hv⟩ := h
    obtain ⟨A', e', hl, hz, hr⟩ := c.row id A e
    exact .eptr v id n i off h1 ⟨A', e', by omega, fun he => by rw [hr (by omega), hz]; exact hv (by omega)⟩
  | tup vs cs hs _ ih => exact .tup vs cs hs ih
  | iface t v x _ ih => exact .iface t v x ih
  | fn f vs us cs ds hs hs' _ _ ih ih' => exact .fn f vs us cs ds hs hs' ih ih'
  | bsl id n h hn =>
    rw [← c.blk id h]
    exact .bsl id n (Nat.lt_of_lt_of_le h c.lb) hn
  | full A n es h => exact .full A n es (h.mono c.cell)

/-- What was there when the call began is as it was, but for the blocks F. -/
structure Keep (w0 : World) (F : List Nat) (w : World) : Prop where
  os : w.os = w0.os
  tape : w.tape = w0.tape
  output : w.output = w0.output
  size : w0.heap.size ≤ w.heap.size
  block : ∀ k, k < w0.heap.size → k ∉ F → w.heap[k]? = w0.heap[k]?

theorem Keep.refl (w : World) (F : List Nat) : Keep w F w := ⟨rfl, rfl, rfl, Nat.le_refl _, fun _ _ _ => rfl⟩

/-- The cell of a row: data; in a row of slices, a row of the call. -/
def RepC (w : World) (M : Mem) (r : List Arr) (A : Arr) (v : Value) (d : D) : Prop := Rep w (Okc M r) v d ∨ (A.sz = 0 ∧ ∃ id n, d = .ref id n ∧ RepA w M r v (.arr id n))
theorem RepC.mono {w w' : World} {M M' : Mem} {r r' : List Arr} (c : Chg w M r w' M' r') {A : Arr} {v : Value} {x : D} (h : RepC w M r A v x) : RepC w' M' r' A v x := by
  rcases h with h | ⟨h0, id, n, e, h⟩
  · exact .inl (h.mono c.cell)
  · exact .inr ⟨h0, id, n, e, h.mono c⟩
theorem RepC.data {w : World} {M : Mem} {r : List Arr} {A : Arr} {v : Value} {x : D} (h : RepC w M r A v x) (h0 : A.sz ≠ 0) : Rep w (Okc M r) v x := by
  rcases h with h | ⟨h1, _⟩
  · exact h
  · exact absurd h1 h0
theorem Arr.w_of {A : Arr} (h : A.sz ≠ 0) : A.w = A.sz := if_neg h
theorem Arr.w_pos (A : Arr) : 0 < A.w := by
  unfold Arr.w
  split <;> omega

/-- The state of a call, and the world. -/
structure Inv (w0 : World) (F : List Nat) (M : Mem) (b : List (List AV)) (r : List Arr) (w : World) : Prop where
  keep : Keep w0 F w
  lb : M.bb.length = b.length
  lr : M.av.length = r.length
  box : ∀ i cells, b[i]? = some cells → ∃ cs ty, w.heap[M.blk i]? = some (.cells cs ty (0, 0)) ∧ cs.size = cells.length ∧
    (∀ j, j < cells.length → (cs.getD j undef).oneCell' = true) ∧ ∀ j, j < cells.length → RepA w M r (cs.getD j undef) (cells.getD j .undef)
  row : ∀ i A, r[i]? = some A → 0 < A.w ∧ (∀ e ∈ A.es, e.length = A.w) ∧ ∃ xs, rowAt w A.ety A.w (M.row i) A.es.length xs ∧
    (∀ x ∈ xs, x.oneCell' = true) ∧ ∀ k j, k < A.es.length → j < A.w → RepC w M r A (xs.getD (k * A.w + j) undef) ((A.es.getD k []).getD j .nilI)
  fb : ∀ i, i < M.bb.length → M.blk i ∈ F ∨ w0.heap.size ≤ M.blk i
  fr : ∀ i g, (M.row i).ownBlock = some g → g ∈ F ∨ w0.heap.size ≤ g
  dbb : ∀ i j, i < M.bb.length → j < M.bb.length → M.blk i = M.blk j → i = j
  drr : ∀ i j g, i < M.av.length → j < M.av.length → (M.row i).ownBlock = some g → (M.row j).ownBlock = some g → i = j
  dbr : ∀ i j, i < M.bb.length → (M.row j).ownBlock ≠ some (M.blk i)
  no : ∀ a, M.no a → a.block < w0.heap.size ∧ ∀ i, (M.row i).ownBlock ≠ some a.block

/-- The frame. -/
def Rept (w : World) (M : Mem) (r : List Arr) (tmps : Array Value) (t : List AV) : Prop :=
  tmps.size = t.length ∧ ∀ i, i < t.length → RepA w M r (tmps.getD i undef) (t.getD i .undef)

theorem Rept.mono {w w' : World} {M M' : Mem} {r r' : List Arr} (c : Chg w M r w' M' r') {tmps : Array Value} {t : List AV} (h : Rept w M r tmps t) : Rept w' M' r' tmps t :=
  ⟨h.1, fun i hi => (h.2 i hi).mono c⟩

end Go.PE
end

section
/- What making, writing and appending do to the state of a call (see PeA). -/
set_option linter.unusedVariables false
set_option linter.unusedSimpArgs false
namespace Go.PE
open Go

theorem getD_append_lt {α : Type} (l m : List α) (i : Nat) (x : α) (h : i < l.length) : (l ++ m).getD i x = l.getD i x := by
  simp [List.getD, List.getElem?_append_left h]
theorem getD_append_len {α : Type} (l : List α) (y x : α) : (l ++ [y]).getD l.length x = y := by
  simp [List.getD]
theorem blk_lt {w : World} {g : Nat} {o : Obj} (h : w.heap[g]? = some o) : g < w.heap.size := (Array.getElem?_eq_some_iff.1 h).1

theorem rowAt_of {w : World} {e : TypeId} {size n : Nat} {v : Value} {xs : List Value} (h : w.ownsRow 0 e size v n xs) : rowAt w e size v n xs := by
  refine ⟨h.1, ?_⟩
  rcases h.2 with h2 | ⟨g, cap, cur, e1, _, hh, hnc, hcm, hcs, htk⟩
  · exact .inl h2
  · exact .inr ⟨g, cap, cur, 0, e1, hh, hnc, hcm, by omega, by simpa using htk⟩
theorem rowAt_nil (w : World) (e : TypeId) (size : Nat) : rowAt w e size (.slice none 0 0) 0 [] := ⟨by simp, .inl ⟨rfl, rfl⟩⟩
theorem rowAt.lt {w : World} {e : TypeId} {size n : Nat} {v : Value} {xs : List Value} (h : rowAt w e size v n xs) : ∀ k, v.ownBlock = some k → k < w.heap.size := by
  intro k hk
  rcases h.2 with ⟨e1, _⟩ | ⟨g, cap, cur, o, e1, hh, _⟩
  · rw [e1] at hk; simp [Value.ownBlock] at hk
  · rw [e1] at hk
    simp [Value.ownBlock] at hk
    subst hk
    exact (Array.getElem?_eq_some_iff.1 hh).1
theorem rowAt.kept {w w' : World} {row : Option Nat} {e : TypeId} {size n : Nat} {v : Value} {xs : List Value} (h : rowAt w e size v n xs) (hg : w.grownBy w' row) (hne : v.ownBlock = none ∨ v.ownBlock ≠ row) : rowAt w' e size v n xs := by
  refine ⟨h.1, ?_⟩
  rcases h.2 with h2 | ⟨g, cap, cur, o, e1, hh, rest⟩
  · exact .inl h2
  · refine .inr ⟨g, cap, cur, o, e1, ?_, rest⟩
    rw [hg.block g (Array.getElem?_eq_some_iff.1 hh).1 (fun e2 => ?_)]
    · exact hh
    · rcases hne with h3 | h3
      · rw [e1] at h3; simp [Value.ownBlock] at h3
      · rw [e1] at h3; simp [Value.ownBlock] at h3; exact h3 e2
theorem rowAt.cells {w : World} {e : TypeId} {size n : Nat} {v : Value} {xs : List Value} (h : rowAt w e size v n xs) {g : Nat} (hg : v.ownBlock = some g) : ∀ j u, xs[j]? = some u → w.cell? ⟨g, offV v + j, none⟩ = some u := by
  intro j u hj
  rcases h.2 with ⟨e1, _⟩ | ⟨g2, cap, cur, o, e1, hh, hnc, hcm, hcs, htk⟩
  · rw [e1] at hg; simp [Value.ownBlock] at hg
  · rw [e1] at hg
    simp [Value.ownBlock] at hg
    subst hg
    rw [e1]
    show w.cell? ⟨g2, o + j, none⟩ = some u
    rw [← htk, List.getElem?_take] at hj
    split at hj
    · rw [List.getElem?_drop] at hj
      simp only [World.cell?, hh]
      simpa using hj
    · cases hj

theorem rowAt.alloc {w : World} {e : TypeId} {size n : Nat} {v : Value} {xs : List Value} (h : rowAt w e size v n xs) (o : Obj) : rowAt (w.alloc o) e size v n xs :=
  h.kept (World.grownBy_alloc w o none) (by cases v.ownBlock <;> simp)

theorem Keep.grown {w0 : World} {F : List Nat} {w w' : World} {row : Option Nat} (h : Keep w0 F w) (hg : w.grownBy w' row) (hr : ∀ g, row = some g → g ∈ F ∨ w0.heap.size ≤ g) : Keep w0 F w' := by
  refine ⟨hg.os.trans h.os, hg.tape.trans h.tape, hg.output.trans h.output, Nat.le_trans h.size hg.size, fun k hk hF => ?_⟩
  rw [hg.block k (Nat.lt_of_lt_of_le hk h.size) (fun e => ?_)]
  · exact h.block k hk hF
  · rcases hr k e.symm with h1 | h1
    · exact hF h1
    · omega

section
variable {w0 : World} {F : List Nat} {M : Mem} {b : List (List AV)} {r : List Arr} {w w' : World}

theorem Inv.box_lt (h : Inv w0 F M b r w) {i : Nat} (hi : i < M.bb.length) : M.blk i < w.heap.size := by
  obtain ⟨cs, ty, hh, _⟩ := h.box i _ (List.getElem?_eq_getElem (by rw [← h.lb]; exact hi))
  exact blk_lt hh
theorem Inv.row_lt (h : Inv w0 F M b r w) {i g : Nat} (hi : (M.row i).ownBlock = some g) : g < w.heap.size := by
  have hl : i < M.av.length := by
    rcases Nat.lt_or_ge i M.av.length with h1 | h1
    · exact h1
    · simp [Mem.row, List.getD, List.getElem?_eq_none h1, Value.ownBlock] at hi
  obtain ⟨_, _, xs, ho, _⟩ := h.row i _ (List.getElem?_eq_getElem (by rw [← h.lr]; exact hl))
  exact ho.lt g hi
theorem row_len {M : Mem} {i g : Nat} (hi : (M.row i).ownBlock = some g) : i < M.av.length := by
  rcases Nat.lt_or_ge i M.av.length with h1 | h1
  · exact h1
  · simp [Mem.row, List.getD, List.getElem?_eq_none h1, Value.ownBlock] at hi

/-- Only new blocks (or draws): all stays. -/
theorem Inv.grow (h : Inv w0 F M b r w) (hg : w.grownBy w' none) : Inv w0 F M b r w' ∧ Chg w M r w' M r := by
  have hc : Chg w M r w' M r := ⟨fun a u ho hc => ⟨hg.cell hc (by simp), ho⟩, Nat.le_refl _, fun _ _ => rfl, fun _ A hA => ⟨A, hA, Nat.le_refl _, rfl, fun _ => rfl⟩, rfl⟩
  refine ⟨⟨h.keep.grown hg (by simp), h.lb, h.lr, fun i cells hi => ?_, fun i A hA => ?_, h.fb, h.fr, h.dbb, h.drr, h.dbr, h.no⟩, hc⟩
  · obtain ⟨cs, ty, hh, hs, h1, hr⟩ := h.box i cells hi
    exact ⟨cs, ty, by rw [hg.block _ (blk_lt hh) (by simp)]; exact hh, hs, h1, fun j hj => (hr j hj).mono hc⟩
  · obtain ⟨hz, he, xs, ho, h1, hr⟩ := h.row i A hA
    exact ⟨hz, he, xs, ho.kept hg (by cases (M.row i).ownBlock <;> simp), h1, fun k j hk hj => (hr k j hk hj).mono hc⟩

theorem grown_drew (w : World) : w.grownBy w.drew none := ⟨rfl, rfl, rfl, Nat.le_refl _, fun _ _ _ => rfl⟩
theorem Inv.drew (h : Inv w0 F M b r w) : Inv w0 F M b r w.drew ∧ Chg w M r w.drew M r := h.grow (grown_drew w)

/-- A new box. -/
theorem Inv.newBox (h : Inv w0 F M b r w) (cs : Array Value) (ty : TypeId) (cells : List AV) (hs : cs.size = cells.length) (h1 : ∀ j, j < cells.length → (cs.getD j undef).oneCell' = true)
    (hr : ∀ j, j < cells.length → RepA w M r (cs.getD j undef) (cells.getD j .undef)) :
    Inv w0 F ⟨M.bb ++ [w.heap.size], M.av, M.no⟩ (b ++ [cells]) r (w.alloc (.cells cs ty)) ∧ Chg w M r (w.alloc (.cells cs ty)) ⟨M.bb ++ [w.heap.size], M.av, M.no⟩ r ∧
    Mem.blk ⟨M.bb ++ [w.heap.size], M.av, M.no⟩ b.length = w.heap.size := by
  have hg : w.grownBy (w.alloc (.cells cs ty)) none := World.grownBy_alloc w _ _
  have hold : ∀ i, i < M.bb.length → Mem.blk ⟨M.bb ++ [w.heap.size], M.av, M.no⟩ i = M.blk i := fun i hi => getD_append_lt _ _ _ _ hi
  have hnew : Mem.blk ⟨M.bb ++ [w.heap.size], M.av, M.no⟩ b.length = w.heap.size := by rw [← h.lb]; exact getD_append_len _ _ _
  have hrow : ∀ i, Mem.row ⟨M.bb ++ [w.heap.size], M.av, M.no⟩ i = M.row i := fun _ => rfl
  have hcase : ∀ i, i < (M.bb ++ [w.heap.size]).length → (i < M.bb.length ∧ Mem.blk ⟨M.bb ++ [w.heap.size], M.av, M.no⟩ i = M.blk i) ∨ (i = M.bb.length ∧ Mem.blk ⟨M.bb ++ [w.heap.size], M.av, M.no⟩ i = w.heap.size) := by
    intro i hi
    simp at hi
    rcases Nat.lt_or_ge i M.bb.length with h1 | h1
    · exact .inl ⟨h1, hold i h1⟩
    · have : i = M.bb.length := by omega
      exact .inr ⟨this, by rw [this, h.lb]; exact hnew⟩
  have hc : Chg w M r (w.alloc (.cells cs ty)) ⟨M.bb ++ [w.heap.size], M.av, M.no⟩ r := by
    refine ⟨fun a u ho hcell => ⟨hg.cell hcell (by simp), ⟨fun i hi => ?_, ho.1.2⟩, ho.2⟩, by simp, hold, fun _ A hA => ⟨A, hA, Nat.le_refl _, rfl, fun _ => rfl⟩, rfl⟩
    have hlt := World.block_lt_of_cell? w a hcell
    rcases hcase i hi with ⟨h2, e⟩ | ⟨_, e⟩
    · rw [e]; exact ho.1.1 i h2
    · rw [e]; omega
  refine ⟨⟨h.keep.grown hg (by simp), by simp [h.lb], h.lr, fun i cells' hi => ?_, fun i A hA => ?_, fun i hi => ?_, h.fr, fun i j hi hj e => ?_, h.drr, fun i j hi => ?_, h.no⟩, hc, hnew⟩
  · rcases Nat.lt_or_ge i b.length with h2 | h2
    · rw [List.getElem?_append_left h2] at hi
      obtain ⟨cs', ty', hh, hs', h1', hr'⟩ := h.box i cells' hi
      exact ⟨cs', ty', by rw [hold i (by rw [h.lb]; exact h2), hg.block _ (blk_lt hh) (by simp)]; exact hh, hs', h1', fun j hj => (hr' j hj).mono hc⟩
    · have hlt := (List.getElem?_eq_some_iff.1 hi).1
      simp at hlt
      have hib : i = b.length := by omega
      subst hib
      simp at hi
      subst hi
      exact ⟨cs, ty, by rw [hnew]; exact heap_alloc_new w _, hs, h1, fun j hj => (hr j hj).mono hc⟩
  · obtain ⟨hz, he, xs, ho, h1', hr'⟩ := h.row i A hA
    exact ⟨hz, he, xs, ho.alloc _, h1', fun k j hk hj => (hr' k j hk hj).mono hc⟩
  · rcases hcase i hi with ⟨h2, e⟩ | ⟨_, e⟩
    · rw [e]; exact h.fb i h2
    · rw [e]; exact .inr h.keep.size
  · rcases hcase i hi with ⟨h2, e2⟩ | ⟨h2, e2⟩ <;> rcases hcase j hj with ⟨h3, e3⟩ | ⟨h3, e3⟩ <;> rw [e2, e3] at e
    · exact h.dbb i j h2 h3 e
    · have := h.box_lt h2; omega
    · have := h.box_lt h3; omega
    · omega
  · rcases hcase i hi with ⟨h2, e2⟩ | ⟨h2, e2⟩ <;> rw [e2]
    · exact h.dbr i j h2
    · intro e
      have := h.row_lt e
      omega

/-- A new row. v: nil, or the new block. -/
theorem Inv.newRow (h : Inv w0 F M b r w) (hg : w.grownBy w' none) (v : Value) (A : Arr) (hsz : 0 < A.w) (he : ∀ e ∈ A.es, e.length = A.w) (xs : List Value) (ho : rowAt w' A.ety A.w v A.es.length xs)
    (h1 : ∀ x ∈ xs, x.oneCell' = true) (hr : ∀ k j, k < A.es.length → j < A.w → RepC w M r A (xs.getD (k * A.w + j) undef) ((A.es.getD k []).getD j .nilI)) (hv : ∀ g, v.ownBlock = some g → w.heap.size ≤ g) :
    Inv w0 F ⟨M.bb, M.av ++ [v], M.no⟩ b (r ++ [A]) w' ∧ Chg w M r w' ⟨M.bb, M.av ++ [v], M.no⟩ (r ++ [A]) ∧ Mem.row ⟨M.bb, M.av ++ [v], M.no⟩ r.length = v := by
  have hold : ∀ i, i < M.av.length → Mem.row ⟨M.bb, M.av ++ [v], M.no⟩ i = M.row i := fun i hi => getD_append_lt _ _ _ _ hi
  have hnew : Mem.row ⟨M.bb, M.av ++ [v], M.no⟩ r.length = v := by rw [← h.lr]; exact getD_append_len _ _ _
  have hcase : ∀ i g, (Mem.row ⟨M.bb, M.av ++ [v], M.no⟩ i).ownBlock = some g → (i < M.av.length ∧ (M.row i).ownBlock = some g ∧ g < w.heap.size) ∨ (i = M.av.length ∧ w.heap.size ≤ g) := by
    intro i g hi
    have hl := row_len hi
    simp at hl
    rcases Nat.lt_or_ge i M.av.length with h2 | h2
    · rw [hold i h2] at hi
      exact .inl ⟨h2, hi, h.row_lt hi⟩
    · have e : i = M.av.length := by omega
      subst e
      rw [h.lr, hnew] at hi
      exact .inr ⟨rfl, hv g hi⟩
  have hc : Chg w M r w' ⟨M.bb, M.av ++ [v], M.no⟩ (r ++ [A]) := by
    refine ⟨fun a u hok hcell => ⟨hg.cell hcell (by simp), hok.1, fun k A' hk hb => ?_⟩, Nat.le_refl _, fun _ _ => rfl, fun i A' hA => ?_, rfl⟩
    · rcases hcase k _ hb with ⟨h2, h3, _⟩ | ⟨_, h3⟩
      · rw [List.getElem?_append_left (by rw [← h.lr]; exact h2)] at hk
        rw [hold k h2]
        exact hok.2 k A' hk h3
      · have := World.block_lt_of_cell? w a hcell
        omega
    · have hi := (List.getElem?_eq_some_iff.1 hA).1
      exact ⟨A', by rw [List.getElem?_append_left hi]; exact hA, Nat.le_refl _, rfl, fun _ => hold i (by rw [h.lr]; exact hi)⟩
  refine ⟨⟨h.keep.grown hg (by simp), h.lb, by simp [h.lr], fun i cells hi => ?_, fun i A' hA => ?_, h.fb, fun i g hi => ?_, h.dbb, fun i j g hi hj e1 e2 => ?_, fun i j hi e => ?_, fun a ha => ⟨(h.no a ha).1, fun i e => ?_⟩⟩, hc, hnew⟩
  · obtain ⟨cs, ty, hh, hs, h1', hr'⟩ := h.box i cells hi
    exact ⟨cs, ty, by show w'.heap[M.blk i]? = _; rw [hg.block _ (blk_lt hh) (by simp)]; exact hh, hs, h1', fun j hj => (hr' j hj).mono hc⟩
  · rcases Nat.lt_or_ge i r.length with h2 | h2
    · rw [List.getElem?_append_left h2] at hA
      obtain ⟨hz, he', xs', ho', h1', hr'⟩ := h.row i A' hA
      rw [hold i (by rw [h.lr]; exact h2)]
      exact ⟨hz, he', xs', ho'.kept hg (by cases (M.row i).ownBlock <;> simp), h1', fun k j hk hj => (hr' k j hk hj).mono hc⟩
    · have hlt := (List.getElem?_eq_some_iff.1 hA).1
      simp at hlt
      have hib : i = r.length := by omega
      subst hib
      simp at hA
      subst hA
      rw [hnew]
      exact ⟨hsz, he, xs, ho, h1, fun k j hk hj => (hr k j hk hj).mono hc⟩
  · rcases hcase i g hi with ⟨_, h3, _⟩ | ⟨_, h3⟩
    · exact h.fr i g h3
    · exact .inr (Nat.le_trans h.keep.size h3)
  · rcases hcase i g e1 with ⟨h2, h3, h4⟩ | ⟨h2, h3⟩ <;> rcases hcase j g e2 with ⟨h5, h6, h7⟩ | ⟨h5, h6⟩
    · exact h.drr i j g h2 h5 h3 h6
    · omega
    · omega
    · omega
  · rcases hcase j _ e with ⟨_, h3, _⟩ | ⟨_, h3⟩
    · exact h.dbr i j hi h3
    · have : M.blk i < w.heap.size := h.box_lt hi
      have h4 : w.heap.size ≤ M.blk i := h3
      omega
  · rcases hcase i _ e with ⟨_, h3, _⟩ | ⟨_, h3⟩
    · exact (h.no a ha).2 i h3
    · have := (h.no a ha).1
      have := h.keep.size
      omega

theorem Mem.row_set {M : Mem} {id : Nat} {v : Value} (hid : id < M.av.length) (i : Nat) : Mem.row ⟨M.bb, M.av.set id v, M.no⟩ i = if i = id then v else M.row i := by
  unfold Mem.row
  simp only [List.getD, List.getElem?_set]
  by_cases e : id = i
  · subst e; simp [hid]
  · simp [e, show ¬ i = id from fun h => e h.symm]

end

/-- append onto an owned row, of whatever is appended; where the new row lies. -/
theorem run_append_src {P : Program} (w : World) (t tx ty e : TypeId) (i : TypeInfo) (z : Value) (ht : P.underlying t = some (.slice e)) (hi : P.info? e = some i) (hz : i.zero = some z)
    (hzs : z.cells.size = i.size) (hsz : 0 < i.size) (v : Value) (n : Nat) (xs : List Value) (hown : rowAt w e i.size v n xs) (x : Value) (m : Nat) (news : List Value) (hs : Src P i.size tx x m news w)
    (hb0 : 0 < i.bytes) (hbytes : (n + m) * i.bytes ≤ 140737488355328) :
    ∃ v' w', (Builtin.append_ #[t, tx] ty #[v, x]).run P w = .ok v' w' ∧ rowAt w' e i.size v' (n + m) (xs ++ news) ∧
      ((v'.ownBlock = v.ownBlock ∧ offV v' = offV v ∧ w.grownBy w' v.ownBlock ∧ ∀ g j u, v.ownBlock = some g → j < offV v + n * i.size → w.cell? ⟨g, j, none⟩ = some u → w'.cell? ⟨g, j, none⟩ = some u) ∨
       (v'.ownBlock = some w.heap.size ∧ w.grownBy w' none)) ∧ (m = 0 → v' = v) := by
  have hsm : n + m ≤ 140737488355328 := Nat.le_trans (Nat.le_mul_of_pos_right _ hb0) hbytes
  have h63 : n + m ≤ maxLen := by simp only [maxLen]; omega
  have hl := hs.newsLen
  have hlen : (xs ++ news).length = (n + m) * i.size := by rw [List.length_append, hown.1, hl, Nat.add_mul]
  have grown : ∀ (old : Nat), old < n + m →
      rowAt (w.drew.alloc (.cells ((xs ++ news).toArray ++ Builtin.zeroCells z.cells (grownCap w (n + m) old e - (n + m))) e)) e i.size
        (.slice (some ⟨w.heap.size, 0, none⟩) (n + m) (grownCap w (n + m) old e)) (n + m) (xs ++ news) ∧
      w.grownBy (w.drew.alloc (.cells ((xs ++ news).toArray ++ Builtin.zeroCells z.cells (grownCap w (n + m) old e - (n + m))) e)) none := by
    intro old ho
    have hge := grownCap_ge w (n + m) old e
    have hcm : grownCap w (n + m) old e ≤ maxLen := grownCap_le_maxLen w (n + m) old e h63
    refine ⟨⟨hlen, .inr ⟨w.heap.size, _, _, 0, rfl, heap_alloc_new w.drew _, hge, hcm, ?_, ?_⟩⟩, ⟨rfl, rfl, rfl, by simp, fun k hk _ => heap_alloc_old w.drew _ hk⟩⟩
    · rw [Nat.zero_add]
      simp only [Array.size_append, List.size_toArray, size_zeroCells, hzs, hlen, ← Nat.add_mul]
      refine Nat.le_of_eq ?_
      congr 1
      omega
    · rw [List.drop_zero]
      simp only [Array.toList_append]
      rw [← hlen]
      exact List.take_left
  rcases hown.2 with ⟨rfl, rfl⟩ | ⟨g, cap, cur, o, rfl, hg, hnc, hcm, hcs, htake⟩
  · have hx : xs = [] := List.eq_nil_of_length_eq_zero (by simpa using hown.1)
    subst hx
    by_cases hm : m = 0
    · subst hm
      have hn : news = [] := List.eq_nil_of_length_eq_zero (by simpa using hl)
      subst hn
      refine ⟨.slice none 0 0, w, ?_, rowAt_nil w e i.size, .inl ⟨rfl, rfl, ⟨rfl, rfl, rfl, Nat.le_refl _, fun _ _ _ => rfl⟩, fun _ _ _ _ _ h => h⟩, fun _ => rfl⟩
      rcases hs.kind with ⟨e', hk⟩ | hk <;> simp [Builtin.append_, run_underlying ht, run_underlying hk, sizeOf, typeInfo, hi, hs.len, hs.cells]
    · have hr := run_append_grow_src (P := P) w t tx ty e i z ht hi hz none 0 0 [] (by simp [Builtin.firstCells]) x m news hs (by omega) (by omega) (growslice_fits (by omega) hbytes)
      have hgr := grown 0 (by omega)
      exact ⟨_, _, hr, hgr.1, .inr ⟨rfl, hgr.2⟩, fun h => absurd h hm⟩
  · by_cases hroom : n + m ≤ cap
    · have hmul := Nat.mul_le_mul_right i.size hroom
      rw [Nat.add_mul] at hmul
      have hfit : (o + n * i.size) + 0 + news.length ≤ cur.size := by rw [hl]; omega
      have hst := run_storeCells_at (P := P) g (o + n * i.size) e news 0 cur w hg hfit hs.one
      have hr : (Builtin.append_ #[t, tx] ty #[.slice (some ⟨g, o, none⟩) n cap, x]).run P w = .ok (.slice (some ⟨g, o, none⟩) (n + m) cap) (w.setRow g (cur.toList.take (o + n * i.size) ++ news ++ cur.toList.drop (o + n * i.size + news.length)).toArray) := by
        simp only [Nat.add_zero] at hst
        rcases hs.kind with ⟨e', hk⟩ | hk <;> simp [Builtin.append_, run_underlying ht, run_underlying hk, sizeOf, typeInfo, hi, hs.len, hroom, hs.cells, Addr.add_lit, hst]
      have htl : (cur.toList.take (o + n * i.size)).length = o + n * i.size := by rw [List.length_take, Array.length_toList]; omega
      refine ⟨_, _, hr, ⟨hlen, .inr ⟨g, cap, _, o, rfl, setRow_heap w g cur _ e _ hg, hroom, hcm, ?_, ?_⟩⟩, .inl ⟨rfl, rfl, ⟨rfl, rfl, rfl, by simp, fun k _ hk => setRow_other w g k _ (fun e => hk (by simp [Value.ownBlock, e]))⟩, fun g' j u hg' hj hc => ?_⟩, fun h => by subst h; rfl⟩
      · simp only [List.size_toArray, List.length_append, htl, List.length_drop, Array.length_toList]
        omega
      · show (((cur.toList.take (o + n * i.size) ++ news ++ cur.toList.drop (o + n * i.size + news.length)).drop o).take ((n + m) * i.size)) = xs ++ news
        rw [List.append_assoc, List.drop_append_of_le_length (by omega), List.drop_take, Nat.add_sub_cancel_left, htake, ← List.append_assoc, ← hlen]
        exact List.take_left
      · simp [Value.ownBlock] at hg'
        subst hg'
        have hj : j < o + n * i.size := hj
        simp only [World.cell?, setRow_heap w g cur _ e _ hg]
        simp only [World.cell?, hg] at hc
        have hc' : cur[j]? = some u := by simpa using hc
        have h2 : (cur.toList.take (o + n * i.size) ++ news ++ cur.toList.drop (o + n * i.size + news.length))[j]? = some u := by
          rw [List.append_assoc, List.getElem?_append_left (by omega), List.getElem?_take, if_pos hj]
          simpa using hc'
        simpa using h2
    · have holds : ∀ j u, xs[j]? = some u → w.drew.cell? ((⟨g, o, none⟩ : Addr).add j) = some u := fun j u h => by
        rw [World.cell?_drew, Addr.add_mid]
        exact hown.cells (g := g) rfl j u h
      have hr := run_append_grow_src (P := P) w t tx ty e i z ht hi hz (some ⟨g, o, none⟩) n cap xs (run_firstCells_some (P := P) w.drew i.size n ⟨g, o, none⟩ n cap xs hown.1 holds) x m news hs (by omega) (by omega) (growslice_fits (by omega) hbytes)
      have hgr := grown cap (by omega)
      exact ⟨_, _, hr, hgr.1, .inr ⟨rfl, hgr.2⟩, fun h => by omega⟩

section
variable {w0 : World} {F : List Nat} {M : Mem} {b : List (List AV)} {r : List Arr} {w w' : World}

theorem set_cases {r : List Arr} {id : Nat} {A B : Arr} (hA : r[id]? = some A) : ∀ i A', (r.set id B)[i]? = some A' → (i = id ∧ A' = B) ∨ (i ≠ id ∧ r[i]? = some A') := by
  intro i A' hi
  have hid : id < r.length := (List.getElem?_eq_some_iff.1 hA).1
  rw [List.getElem?_set] at hi
  by_cases e : id = i
  · subst e
    simp [hid] at hi
    exact .inl ⟨rfl, hi.symm⟩
  · rw [if_neg e] at hi
    exact .inr ⟨fun h => e h.symm, hi⟩
theorem set_at {r : List Arr} {id : Nat} {A B : Arr} (hA : r[id]? = some A) : (r.set id B)[id]? = some B := by
  have hid : id < r.length := (List.getElem?_eq_some_iff.1 hA).1
  simp [hid]
theorem set_ne {r : List Arr} {id i : Nat} {B : Arr} (h : i ≠ id) : (r.set id B)[i]? = r[i]? := by
  rw [List.getElem?_set, if_neg (fun e => h e.symm)]

/-- A row that grows at its end, in place or anew. -/
theorem Inv.append (h : Inv w0 F M b r w) (id : Nat) (A : Arr) (hA : r[id]? = some A) (news : List (List D)) (v' : Value) (xs ys : List Value)
    (ho : rowAt w A.ety A.w (M.row id) A.es.length xs) (hx1 : ∀ x ∈ xs, x.oneCell' = true)
    (hxr : ∀ k j, k < A.es.length → j < A.w → RepC w M r A (xs.getD (k * A.w + j) undef) ((A.es.getD k []).getD j .nilI))
    (ho' : rowAt w' A.ety A.w v' (A.es.length + news.length) (xs ++ ys))
    (hb : (v'.ownBlock = (M.row id).ownBlock ∧ offV v' = offV (M.row id) ∧ w.grownBy w' (M.row id).ownBlock ∧ ∀ g j u, (M.row id).ownBlock = some g → j < offV (M.row id) + A.es.length * A.w → w.cell? ⟨g, j, none⟩ = some u → w'.cell? ⟨g, j, none⟩ = some u) ∨ (v'.ownBlock = some w.heap.size ∧ w.grownBy w' none)) (hn : ∀ e ∈ news, e.length = A.w) (hne : news.length = 0 → v' = M.row id)
    (hy1 : ∀ x ∈ ys, x.oneCell' = true) (hyr : ∀ k j, k < news.length → j < A.w → RepC w M r A (ys.getD (k * A.w + j) undef) ((news.getD k []).getD j .nilI)) :
    Inv w0 F ⟨M.bb, M.av.set id v', M.no⟩ b (r.set id { A with es := A.es ++ news }) w' ∧ Chg w M r w' ⟨M.bb, M.av.set id v', M.no⟩ (r.set id { A with es := A.es ++ news }) ∧
    Mem.row ⟨M.bb, M.av.set id v', M.no⟩ id = v' := by
  have hid : id < r.length := (List.getElem?_eq_some_iff.1 hA).1
  have hid' : id < M.av.length := by rw [h.lr]; exact hid
  have hrow := Mem.row_set (M := M) (v := v') hid'
  have hnew : Mem.row ⟨M.bb, M.av.set id v', M.no⟩ id = v' := by rw [hrow]; simp
  have hset := set_cases (B := { A with es := A.es ++ news }) hA
  have hxl : xs.length = A.es.length * A.w := ho.1
  have hgall : w.grownBy w' (M.row id).ownBlock := by
    rcases hb with ⟨_, _, hg, _⟩ | ⟨_, hg⟩
    · exact hg
    · exact ⟨hg.os, hg.tape, hg.output, hg.size, fun k hk _ => hg.block k hk (by simp)⟩
  -- cells of the old row below its end stay
  have hcell : ∀ a u, Okc M r a → w.cell? a = some u → w'.cell? a = some u := by
    intro a u hok hc
    rcases hb with ⟨_, _, hg, hkeep⟩ | ⟨_, hg⟩
    case inr => exact hg.cell hc (by simp)
    by_cases e : some a.block = (M.row id).ownBlock
    · have hoff := (hok.2 id A hA e.symm).2
      obtain ⟨bk, off, spot⟩ := a
      cases spot with
      | none => exact hkeep bk off u e.symm hoff hc
      | some x =>
        simp only [World.cell?] at hc
        split at hc <;> simp at hc
    · exact hg.cell hc e
  have hcase : ∀ i g, (Mem.row ⟨M.bb, M.av.set id v', M.no⟩ i).ownBlock = some g → (i ≠ id ∧ (M.row i).ownBlock = some g) ∨ (i = id ∧ ((M.row id).ownBlock = some g ∨ g = w.heap.size)) := by
    intro i g hi
    rw [hrow] at hi
    by_cases e : i = id
    · subst e
      simp at hi
      rcases hb with ⟨hb, _, _⟩ | ⟨hb, _⟩
      · exact .inr ⟨rfl, .inl (hb ▸ hi)⟩
      · rw [hb] at hi; exact .inr ⟨rfl, .inr (by injection hi with hi; exact hi.symm)⟩
    · rw [if_neg e] at hi
      exact .inl ⟨e, hi⟩
  have hc : Chg w M r w' ⟨M.bb, M.av.set id v', M.no⟩ (r.set id { A with es := A.es ++ news }) := by
    refine ⟨fun a u hok hcell' => ⟨hcell a u hok hcell', hok.1, fun k A' hk hbk => ?_⟩, Nat.le_refl _, fun _ _ => rfl, fun i A' hA' => ?_, rfl⟩
    · have hlt := World.block_lt_of_cell? w a hcell'
      rcases hset k A' hk with ⟨rfl, rfl⟩ | ⟨hne', hk'⟩
      · rcases hcase k _ hbk with ⟨h1, _⟩ | ⟨_, h1 | h1⟩
        · exact absurd rfl h1
        · obtain ⟨h2, h3⟩ := hok.2 k A hA h1
          refine ⟨h2, ?_⟩
          rw [hnew]
          show a.off < offV v' + (A.es ++ news).length * A.w
          rcases hb with ⟨_, ho2, _⟩ | ⟨hb2, _⟩
          · rw [ho2, List.length_append, Nat.add_mul]
            omega
          · rw [hnew, hb2] at hbk
            injection hbk with hbk
            omega
        · omega
      · rcases hcase k _ hbk with ⟨_, h1⟩ | ⟨h1, _⟩
        · rw [hrow, if_neg hne']
          exact hok.2 k A' hk' h1
        · exact absurd h1 hne'
    · by_cases e : i = id
      · subst e
        rw [hA] at hA'
        injection hA' with hA'
        subst hA'
        refine ⟨_, set_at hA, by simp, rfl, fun hl => ?_⟩
        rw [hnew]
        exact hne (by simpa using hl)
      · exact ⟨A', by rw [set_ne e]; exact hA', Nat.le_refl _, rfl, fun _ => by rw [hrow, if_neg e]⟩
  refine ⟨⟨h.keep.grown hgall (fun g hg => h.fr id g hg), h.lb, by simp [h.lr], fun i cells hi => ?_, fun i A' hA' => ?_, h.fb, fun i g hi => ?_, h.dbb, fun i j g hi hj e1 e2 => ?_, fun i j hi e => ?_, fun a ha => ⟨(h.no a ha).1, fun i e => ?_⟩⟩, hc, hnew⟩
  · obtain ⟨cs, ty, hh, hs, h1', hr'⟩ := h.box i cells hi
    exact ⟨cs, ty, by show w'.heap[M.blk i]? = _; rw [hgall.block _ (blk_lt hh) (fun e => h.dbr i id (by rw [h.lb]; exact (List.getElem?_eq_some_iff.1 hi).1) e.symm)]; exact hh, hs, h1', fun j hj => (hr' j hj).mono hc⟩
  · rcases hset i A' hA' with ⟨rfl, rfl⟩ | ⟨hne', hA''⟩
    · obtain ⟨hz, he, _⟩ := h.row i A hA
      rw [hnew]
      refine ⟨hz, fun e he' => ?_, xs ++ ys, by show rowAt w' A.ety A.w v' (A.es ++ news).length (xs ++ ys); rw [List.length_append]; exact ho', fun x hx => ?_, fun k j hk hj => ?_⟩
      · rcases List.mem_append.1 he' with h2 | h2
        · exact he e h2
        · exact hn e h2
      · rcases List.mem_append.1 hx with h2 | h2
        · exact hx1 x h2
        · exact hy1 x h2
      · show RepC w' _ _ A ((xs ++ ys).getD (k * A.w + j) undef) (((A.es ++ news).getD k []).getD j .nilI)
        rcases Nat.lt_or_ge k A.es.length with h2 | h2
        · have h3 : k * A.w + j < xs.length := by
            rw [hxl]
            calc k * A.w + j < k * A.w + A.w := Nat.add_lt_add_left hj _
              _ = (k + 1) * A.w := by rw [Nat.add_mul, Nat.one_mul]
              _ ≤ A.es.length * A.w := Nat.mul_le_mul_right _ h2
          rw [getD_append_lt _ _ _ _ h3, getD_append_lt _ _ _ _ h2]
          exact (hxr k j h2 hj).mono hc
        · have hk' : k - A.es.length < news.length := by simp at hk; omega
          have e1 : (xs ++ ys).getD (k * A.w + j) undef = ys.getD ((k - A.es.length) * A.w + j) undef := by
            have h5 : xs.length ≤ k * A.w + j := by rw [hxl]; exact Nat.le_trans (Nat.mul_le_mul_right _ h2) (Nat.le_add_right _ _)
            have h6 : k * A.w + j - xs.length = (k - A.es.length) * A.w + j := by
              rw [hxl, Nat.sub_mul]
              have := Nat.mul_le_mul_right A.w h2
              omega
            simp only [List.getD, List.getElem?_append_right h5, h6]
          have e2 : (A.es ++ news).getD k [] = news.getD (k - A.es.length) [] := by
            simp only [List.getD, List.getElem?_append_right h2]
          rw [e1, e2]
          exact (hyr _ j hk' hj).mono hc
    · obtain ⟨hz, he, xs', ho'', h1', hr'⟩ := h.row i A' hA''
      rw [hrow, if_neg hne']
      refine ⟨hz, he, xs', ho''.kept hgall ?_, h1', fun k j hk hj => (hr' k j hk hj).mono hc⟩
      cases e : (M.row i).ownBlock with
      | none => exact .inl rfl
      | some g =>
        refine .inr fun e2 => hne' (h.drr i id g (by rw [h.lr]; exact (List.getElem?_eq_some_iff.1 hA'').1) hid' e e2.symm)
  · rcases hcase i g hi with ⟨_, h3⟩ | ⟨rfl, h3 | h3⟩
    · exact h.fr i g h3
    · exact h.fr i g h3
    · exact .inr (h3 ▸ h.keep.size)
  · simp at hi hj
    rcases hcase i g e1 with ⟨h2, h3⟩ | ⟨h2, h3⟩ <;> rcases hcase j g e2 with ⟨h5, h6⟩ | ⟨h5, h6⟩
    · exact h.drr i j g hi hj h3 h6
    · rcases h6 with h6 | h6
      · exact absurd (h.drr i id g hi hid' h3 h6) h2
      · have := h.row_lt h3; omega
    · rcases h3 with h3 | h3
      · exact absurd (h.drr j id g hj hid' h6 h3) h5
      · have := h.row_lt h6; omega
    · omega
  · rcases hcase j _ e with ⟨_, h3⟩ | ⟨_, h3 | h3⟩
    · exact h.dbr i j hi h3
    · exact h.dbr i id hi h3
    · have := h.box_lt hi
      have h4 : M.blk i = w.heap.size := h3
      omega
  · rcases hcase i _ e with ⟨_, h3⟩ | ⟨_, h3 | h3⟩
    · exact (h.no a ha).2 i h3
    · exact (h.no a ha).2 id h3
    · have := (h.no a ha).1
      have := h.keep.size
      omega

/-- A row is handed on: nothing in it may be overwritten from now on. -/
theorem Inv.share (h : Inv w0 F M b r w) (id : Nat) (A : Arr) (hA : r[id]? = some A) :
    Inv w0 F M b (r.set id { A with sh := true }) w ∧ Chg w M r w M (r.set id { A with sh := true }) := by
  have hset := set_cases (B := { A with sh := true }) hA
  have hc : Chg w M r w M (r.set id { A with sh := true }) := by
    refine ⟨fun a u hok hcell => ⟨hcell, hok.1, fun k A' hk hb => ?_⟩, Nat.le_refl _, fun _ _ => rfl, fun i A' hA' => ?_, rfl⟩
    · rcases hset k A' hk with ⟨rfl, rfl⟩ | ⟨_, hk'⟩
      · exact ⟨rfl, (hok.2 k A hA hb).2⟩
      · exact hok.2 k A' hk' hb
    · by_cases e : i = id
      · subst e
        rw [hA] at hA'
        injection hA' with hA'
        subst hA'
        exact ⟨_, set_at hA, Nat.le_refl _, rfl, fun _ => rfl⟩
      · exact ⟨A', by rw [set_ne e]; exact hA', Nat.le_refl _, rfl, fun _ => rfl⟩
  refine ⟨⟨h.keep, h.lb, by simp [h.lr], fun i cells hi => ?_, fun i A' hA' => ?_, h.fb, h.fr, h.dbb, h.drr, h.dbr, h.no⟩, hc⟩
  · obtain ⟨cs, ty, hh, hs, h1', hr'⟩ := h.box i cells hi
    exact ⟨cs, ty, hh, hs, h1', fun j hj => (hr' j hj).mono hc⟩
  · have key : ∀ A', r[i]? = some A' → _ := fun A' hA' => h.row i A' hA'
    rcases hset i A' hA' with ⟨rfl, rfl⟩ | ⟨_, hA''⟩
    · obtain ⟨hz, he, xs, ho, h1, hr⟩ := key A hA
      exact ⟨hz, he, xs, ho, h1, fun k j hk hj => (hr k j hk hj).mono hc⟩
    · obtain ⟨hz, he, xs, ho, h1, hr⟩ := key A' hA''
      exact ⟨hz, he, xs, ho, h1, fun k j hk hj => (hr k j hk hj).mono hc⟩

/-- All rows are lent. -/
def lendR : List Arr → List Arr
  | [] => []
  | A :: l => { A with sh := true } :: lendR l
theorem lendR_get : ∀ {r : List Arr} {i : Nat} {A : Arr}, r[i]? = some A → (lendR r)[i]? = some { A with sh := true }
  | [], i, A, h => by simp at h
  | B :: l, 0, A, h => by
    simp only [List.getElem?_cons_zero, Option.some.injEq] at h
    subst h
    rfl
  | B :: l, i + 1, A, h => by
    simp only [lendR, List.getElem?_cons_succ]
    exact lendR_get (by simpa using h)
theorem lendR_len : ∀ (r : List Arr), (lendR r).length = r.length
  | [] => rfl
  | A :: l => by simp [lendR, lendR_len l]
theorem lendR_of {r : List Arr} {i : Nat} {B : Arr} (h : (lendR r)[i]? = some B) : ∃ A, r[i]? = some A ∧ B = { A with sh := true } := by
  have hi : i < r.length := by rw [← lendR_len]; exact (List.getElem?_eq_some_iff.1 h).1
  refine ⟨r[i], List.getElem?_eq_getElem hi, ?_⟩
  rw [lendR_get (List.getElem?_eq_getElem hi)] at h
  injection h with h
  exact h.symm
theorem Okc.lend {M : Mem} {r : List Arr} {a : Addr} (h : Okc M r a) : Okc M (lendR r) a := by
  refine ⟨h.1, fun k A' hk hb => ?_⟩
  obtain ⟨A, hA, rfl⟩ := lendR_of hk
  exact ⟨rfl, (h.2 k A hA hb).2⟩
theorem Inv.lend (h : Inv w0 F M b r w) : Inv w0 F M b (lendR r) w ∧ Chg w M r w M (lendR r) := by
  have hc : Chg w M r w M (lendR r) := ⟨fun a u hok hcell => ⟨hcell, hok.lend⟩, Nat.le_refl _, fun _ _ => rfl, fun i A hA => ⟨_, lendR_get hA, Nat.le_refl _, rfl, fun _ => rfl⟩, rfl⟩
  refine ⟨⟨h.keep, h.lb, by rw [lendR_len]; exact h.lr, fun i cells hi => ?_, fun i A' hA' => ?_, h.fb, h.fr, h.dbb, h.drr, h.dbr, h.no⟩, hc⟩
  · obtain ⟨cs, ty, hh, hs, h1', hr'⟩ := h.box i cells hi
    exact ⟨cs, ty, hh, hs, h1', fun j hj => (hr' j hj).mono hc⟩
  · obtain ⟨A, hA, rfl⟩ := lendR_of hA'
    obtain ⟨hz, he, xs, ho, h1, hr⟩ := h.row i A hA
    exact ⟨hz, he, xs, ho, h1, fun k j hk hj => (hr k j hk hj).mono hc⟩

/-- The cells of a row of the call, read from the world. -/
theorem rowAt_eq {w w' : World} {e : TypeId} {n k : Nat} {v : Value} {xs xs' : List Value} (ho : rowAt w e n v k xs) (ho' : rowAt w' e n v k xs')
    (hc : ∀ g j u, v.ownBlock = some g → j < k * n → w.cell? ⟨g, offV v + j, none⟩ = some u → w'.cell? ⟨g, offV v + j, none⟩ = some u) : xs' = xs := by
  have hl := ho.1
  have hl' := ho'.1
  rcases ho.2 with ⟨e1, e2⟩ | ⟨g, cap, cur, o, e1, _⟩
  · subst e2
    rw [Nat.zero_mul] at hl hl'
    rw [List.eq_nil_of_length_eq_zero hl, List.eq_nil_of_length_eq_zero hl']
  · have hg : v.ownBlock = some g := by rw [e1]; rfl
    refine List.ext_getElem (by omega) (fun j h1 h2 => ?_)
    have h3 := ho.cells hg j xs[j] (List.getElem?_eq_getElem h2)
    have h4 := ho'.cells hg j xs'[j] (List.getElem?_eq_getElem h1)
    have h5 := hc g j _ hg (by omega) h3
    rw [h4] at h5
    injection h5

/-- The row of a shared slice, as data. -/
theorem Inv.rowData (h : Inv w0 F M b r w) (id : Nat) (A : Arr) (hA : r[id]? = some A) (hsh : A.sh = true) (h0 : A.sz ≠ 0) : Rep w (Okc M r) (M.row id) (.list A.es) := by
  obtain ⟨hz, he, xs, ho, h1, hrc⟩ := h.row id A hA
  have hr := fun k j hk hj => (hrc k j hk hj).data h0
  have hid : id < M.av.length := by rw [h.lr]; exact (List.getElem?_eq_some_iff.1 hA).1
  have hxl : xs.length = A.es.length * A.w := ho.1
  have hlt : ∀ i j, i < A.es.length → j < A.w → i * A.w + j < xs.length := fun i j hi hj => by
    rw [hxl]
    calc i * A.w + j < i * A.w + A.w := Nat.add_lt_add_left hj _
      _ = (i + 1) * A.w := by rw [Nat.add_mul, Nat.one_mul]
      _ ≤ A.es.length * A.w := Nat.mul_le_mul_right _ hi
  have hel : ∀ i, i < A.es.length → (A.es.getD i []).length = A.w := fun i hi => by
    have : A.es.getD i [] = A.es[i] := by simp [List.getD, hi]
    rw [this]
    exact he _ (List.getElem_mem hi)
  have hone : ∀ i j, i < A.es.length → j < A.w → (xs.getD (i * A.w + j) undef).oneCell' = true := fun i j hi hj => by
    have h3 := hlt i j hi hj
    have : xs.getD (i * A.w + j) undef = xs[i * A.w + j] := by simp [List.getD, h3]
    rw [this]
    exact h1 _ (List.getElem_mem h3)
  have ho2 := ho.2
  rcases ho2 with ⟨h2, h3⟩ | ⟨g, cap, cur, o, h2, h4, h5, h6, h7, h8⟩
  · rw [h2]
    exact .list none 0 0 A.w A.es (fun _ _ => undef) h3.symm ⟨Nat.le_refl _, Nat.zero_le _⟩ (fun i hi => absurd hi (by omega)) (fun h => absurd h (by omega)) (fun i _ hi => absurd hi (by omega)) (fun i _ hi => absurd hi (by omega))
  · have hbk : (M.row id).ownBlock = some g := by rw [h2]; rfl
    rw [h2]
    refine .list _ _ cap A.w A.es (fun i j => xs.getD (i * A.w + j) undef) rfl ⟨h5, h6⟩ hel (fun _ => ⟨_, rfl, rfl, fun i j hi hj => ?_⟩) hone hr
    have h9 := hlt i j hi hj
    have hgx : xs[i * A.w + j]? = some (xs.getD (i * A.w + j) undef) := by simp [List.getD, h9]
    have hcell := ho.cells hbk _ _ hgx
    have hoff : offV (M.row id) = o := by rw [h2]; rfl
    rw [hoff] at hcell
    rw [Addr.add_mid]
    refine ⟨hcell, ⟨fun k hk e => ?_, fun hno => ?_⟩, fun k A' hk e => ?_⟩
    · exact h.dbr k id hk (by rw [hbk]; exact congrArg some e.symm)
    · exact (h.no _ hno).2 id hbk
    · have hk' : k < M.av.length := row_len e
      have := h.drr k id g hk' hid e hbk
      subst this
      rw [hA] at hk
      injection hk with hk
      subst hk
      refine ⟨hsh, ?_⟩
      rw [hoff]
      show o + (i * A.w + j) < o + A.es.length * A.w
      rw [hxl] at h9
      omega
end
end Go.PE
end

section
/- What writing to boxes and rows does to the state of a call (see PeA). -/
set_option linter.unusedVariables false
set_option linter.unusedSimpArgs false
namespace Go.PE
open Go

theorem grown_setRow (w : World) (g : Nat) (cs : Array Value) : w.grownBy (w.setRow g cs) (some g) :=
  ⟨rfl, rfl, rfl, by simp [World.setRow], fun k _ hk => setRow_other w g k cs (fun e => hk (by rw [e]))⟩

theorem bset_at {b : List (List AV)} {i : Nat} {c d : List AV} (h : b[i]? = some c) : (b.set i d)[i]? = some d := by
  have hid : i < b.length := (List.getElem?_eq_some_iff.1 h).1
  simp [hid]
theorem bset_cases {b : List (List AV)} {id : Nat} {c d : List AV} (hA : b[id]? = some c) : ∀ i A', (b.set id d)[i]? = some A' → (i = id ∧ A' = d) ∨ (i ≠ id ∧ b[i]? = some A') := by
  intro i A' hi
  have hid : id < b.length := (List.getElem?_eq_some_iff.1 hA).1
  rw [List.getElem?_set] at hi
  by_cases e : id = i
  · subst e
    simp [hid] at hi
    exact .inl ⟨rfl, hi.symm⟩
  · rw [if_neg e] at hi
    exact .inr ⟨fun h => e h.symm, hi⟩

theorem splice_at {α : Type} (L : List α) (o q m k : Nat) (xs ys : List α) (h : ys ++ (L.drop o).drop k = (L.drop o).take q ++ xs ++ (L.drop o).drop (q + m)) : L.take o ++ ys ++ L.drop (o + k) = L.take (o + q) ++ xs ++ L.drop (o + q + m) := by
  have e1 : L.drop (o + k) = (L.drop o).drop k := by rw [List.drop_drop]
  have e2 : L.drop (o + q + m) = (L.drop o).drop (q + m) := by rw [List.drop_drop, Nat.add_assoc]
  have e3 : L.take (o + q) = L.take o ++ (L.drop o).take q := List.take_add
  rw [e1, e2, e3, List.append_assoc, h]
  simp only [List.append_assoc]

section
variable {w0 : World} {F : List Nat} {M : Mem} {b : List (List AV)} {r : List Arr} {w : World}

theorem Inv.setBox (h : Inv w0 F M b r w) (i : Nat) (cells : List AV) (hi : b[i]? = some cells) (cs : Array Value) (cells' : List AV) (hs : cs.size = cells'.length)
    (h1 : ∀ j, j < cells'.length → (cs.getD j undef).oneCell' = true) (hr : ∀ j, j < cells'.length → RepA w M r (cs.getD j undef) (cells'.getD j .undef)) :
    Inv w0 F M (b.set i cells') r (w.setRow (M.blk i) cs) ∧ Chg w M r (w.setRow (M.blk i) cs) M r := by
  have hib : i < M.bb.length := by rw [h.lb]; exact (List.getElem?_eq_some_iff.1 hi).1
  have hg := grown_setRow w (M.blk i) cs
  have hc : Chg w M r (w.setRow (M.blk i) cs) M r :=
    ⟨fun a u hok hcell => ⟨hg.cell hcell (fun e => hok.1.1 i hib (by injection e with e; exact e.symm)), hok⟩, Nat.le_refl _, fun _ _ => rfl, fun _ A hA => ⟨A, hA, Nat.le_refl _, rfl, fun _ => rfl⟩, rfl⟩
  refine ⟨⟨h.keep.grown hg (fun g e => by injection e with e; rw [← e]; exact h.fb i hib), by simp [h.lb], h.lr, fun k cs' hk => ?_, fun k A hk => ?_, h.fb, h.fr, h.dbb, h.drr, h.dbr, h.no⟩, hc⟩
  · rcases bset_cases hi k cs' hk with ⟨rfl, rfl⟩ | ⟨hne, hk'⟩
    · obtain ⟨old, ty, hh, _⟩ := h.box k cells hi
      exact ⟨cs, ty, setRow_heap w _ old cs ty _ hh, hs, h1, fun j hj => (hr j hj).mono hc⟩
    · obtain ⟨old, ty, hh, hs', h1', hr'⟩ := h.box k cs' hk'
      refine ⟨old, ty, ?_, hs', h1', fun j hj => (hr' j hj).mono hc⟩
      rw [setRow_other w _ _ cs (fun e => hne (h.dbb k i (by rw [h.lb]; exact (List.getElem?_eq_some_iff.1 hk').1) hib e))]
      exact hh
  · obtain ⟨hz, he, xs, ho, h1', hr'⟩ := h.row k A hk
    refine ⟨hz, he, xs, ho.kept hg ?_, h1', fun q j hq hj => (hr' q j hq hj).mono hc⟩
    cases e : (M.row k).ownBlock with
    | none => exact .inl rfl
    | some g => exact .inr fun e2 => h.dbr i k hib (by rw [e]; exact e2)

theorem Inv.setRowElems (h : Inv w0 F M b r w) (id : Nat) (A : Arr) (hA : r[id]? = some A) (hsh : A.sh = false) (g cap : Nat) (cur : Array Value) (o : Nat) (hv : M.row id = .slice (some ⟨g, o, none⟩) A.es.length cap)
    (hg : w.heap[g]? = some (.cells cur A.ety (0, 0))) (hcs : o + cap * A.w ≤ cur.size) (hn : A.es.length ≤ cap) (hm : cap ≤ maxLen) (xs' : List Value) (es' : List (List D)) (hl : es'.length = A.es.length) (he : ∀ e ∈ es', e.length = A.w)
    (hx : xs'.length = A.es.length * A.w) (h1 : ∀ x ∈ xs', x.oneCell' = true) (hr : ∀ k j, k < es'.length → j < A.w → RepC w M r A (xs'.getD (k * A.w + j) undef) ((es'.getD k []).getD j .nilI)) :
    Inv w0 F M b (r.set id { A with es := es' }) (w.setRow g (cur.toList.take o ++ xs' ++ cur.toList.drop (o + A.es.length * A.w)).toArray) ∧
    Chg w M r (w.setRow g (cur.toList.take o ++ xs' ++ cur.toList.drop (o + A.es.length * A.w)).toArray) M (r.set id { A with es := es' }) := by
  have hset := set_cases (B := { A with es := es' }) hA
  have hid : id < M.av.length := by rw [h.lr]; exact (List.getElem?_eq_some_iff.1 hA).1
  have hbk : (M.row id).ownBlock = some g := by rw [hv]; rfl
  have hgr := grown_setRow w g (cur.toList.take o ++ xs' ++ cur.toList.drop (o + A.es.length * A.w)).toArray
  have hc : Chg w M r (w.setRow g (cur.toList.take o ++ xs' ++ cur.toList.drop (o + A.es.length * A.w)).toArray) M (r.set id { A with es := es' }) := by
    refine ⟨fun a u hok hcell => ⟨hgr.cell hcell (fun e => ?_), hok.1, fun k A' hk hb => ?_⟩, Nat.le_refl _, fun _ _ => rfl, fun i A' hA' => ?_, rfl⟩
    · injection e with e
      have := (hok.2 id A hA (by rw [hbk, e])).1
      rw [hsh] at this
      cases this
    · rcases hset k A' hk with ⟨rfl, rfl⟩ | ⟨_, hk'⟩
      · have := (hok.2 k A hA hb).1
        rw [hsh] at this
        cases this
      · exact hok.2 k A' hk' hb
    · by_cases e : i = id
      · subst e
        rw [hA] at hA'
        injection hA' with hA'
        subst hA'
        exact ⟨_, set_at hA, by simp [hl], rfl, fun _ => rfl⟩
      · exact ⟨A', by rw [set_ne e]; exact hA', Nat.le_refl _, rfl, fun _ => rfl⟩
  have hgF : g ∈ F ∨ w0.heap.size ≤ g := h.fr id g hbk
  refine ⟨⟨h.keep.grown hgr (fun k e => by injection e with e; rw [← e]; exact hgF), h.lb, by simp [h.lr], fun i cells hi => ?_, fun i A' hA' => ?_, h.fb, h.fr, h.dbb, h.drr, h.dbr, h.no⟩, hc⟩
  · obtain ⟨cs, ty, hh, hs, h1', hr'⟩ := h.box i cells hi
    refine ⟨cs, ty, ?_, hs, h1', fun j hj => (hr' j hj).mono hc⟩
    rw [setRow_other w _ _ _ (fun e => h.dbr i id (by rw [h.lb]; exact (List.getElem?_eq_some_iff.1 hi).1) (by rw [hbk]; exact congrArg some e.symm))]
    exact hh
  · rcases hset i A' hA' with ⟨rfl, rfl⟩ | ⟨hne, hA''⟩
    · obtain ⟨hz, _⟩ := h.row i A hA
      refine ⟨hz, he, xs', ⟨by show xs'.length = es'.length * A.w; rw [hx, hl], .inr ⟨g, cap, _, o, by rw [hl]; exact hv, setRow_heap w g cur _ A.ety _ hg, by rw [hl]; exact hn, hm, ?_, ?_⟩⟩, h1, fun k j hk hj => (hr k j hk hj).mono hc⟩
      · have := Nat.mul_le_mul_right A.w hn
        show o + cap * A.w ≤ (cur.toList.take o ++ xs' ++ cur.toList.drop (o + A.es.length * A.w)).toArray.size
        simp only [List.size_toArray, List.length_append, List.length_take, List.length_drop, Array.length_toList, hx]
        omega
      · show ((cur.toList.take o ++ xs' ++ cur.toList.drop (o + A.es.length * A.w)).toArray.toList.drop o).take (es'.length * A.w) = xs'
        have hto : (cur.toList.take o).length = o := by rw [List.length_take, Array.length_toList]; omega
        rw [List.toList_toArray, List.append_assoc, List.drop_append_of_le_length (by omega), List.drop_eq_nil_of_le (by omega), List.nil_append, hl, ← hx]
        exact List.take_left
    · obtain ⟨hz, he', xs'', ho'', h1'', hr''⟩ := h.row i A' hA''
      refine ⟨hz, he', xs'', ho''.kept hgr ?_, h1'', fun k j hk hj => (hr'' k j hk hj).mono hc⟩
      cases e : (M.row i).ownBlock with
      | none => exact .inl rfl
      | some k =>
        refine .inr fun e2 => hne (h.drr i id k (by rw [h.lr]; exact (List.getElem?_eq_some_iff.1 hA'').1) hid e ?_)
        rw [hbk]; exact e2.symm
theorem Inv.setRowElemsD (h : Inv w0 F M b r w) (id : Nat) (A : Arr) (hA : r[id]? = some A) (hnz : A.sz ≠ 0) (hsh : A.sh = false) (g cap : Nat) (cur : Array Value) (o : Nat) (hv : M.row id = .slice (some ⟨g, o, none⟩) A.es.length cap)
    (hg : w.heap[g]? = some (.cells cur A.ety (0, 0))) (hcs : o + cap * A.sz ≤ cur.size) (hn : A.es.length ≤ cap) (hm : cap ≤ maxLen) (xs' : List Value) (es' : List (List D)) (hl : es'.length = A.es.length) (he : ∀ e ∈ es', e.length = A.sz)
    (hx : xs'.length = A.es.length * A.sz) (h1 : ∀ x ∈ xs', x.oneCell' = true) (hr : ∀ k j, k < es'.length → j < A.sz → Rep w (Okc M r) (xs'.getD (k * A.sz + j) undef) ((es'.getD k []).getD j .nilI)) :
    Inv w0 F M b (r.set id { A with es := es' }) (w.setRow g (cur.toList.take o ++ xs' ++ cur.toList.drop (o + A.es.length * A.sz)).toArray) ∧
    Chg w M r (w.setRow g (cur.toList.take o ++ xs' ++ cur.toList.drop (o + A.es.length * A.sz)).toArray) M (r.set id { A with es := es' }) := by
  have hw := Arr.w_of hnz
  have := h.setRowElems id A hA hsh g cap cur o hv hg (by rw [hw]; exact hcs) hn hm xs' es' hl (by rw [hw]; exact he) (by rw [hw]; exact hx) h1 (by rw [hw]; exact fun k j hk hj => .inl (hr k j hk hj))
  rw [hw] at this
  exact this
/-- A row told in another way: nothing happens. -/
theorem Inv.recell (h : Inv w0 F M b r w) (id : Nat) (A B : Arr) (hA : r[id]? = some A) (hw : B.w = A.w) (hety : B.ety = A.ety) (hsh : B.sh = A.sh) (hl : B.es.length = A.es.length) (he : ∀ e ∈ B.es, e.length = B.w)
    (hr : ∀ (k : Nat) (v : Nat → Value), k < B.es.length → (∀ j, j < A.w → RepC w M r A (v j) ((A.es.getD k []).getD j .nilI)) → ∀ j, j < B.w → RepC w M r B (v j) ((B.es.getD k []).getD j .nilI)) :
    Inv w0 F M b (r.set id B) w ∧ Chg w M r w M (r.set id B) := by
  have hset := set_cases (B := B) hA
  have hc : Chg w M r w M (r.set id B) := by
    refine ⟨fun a u hok hcell => ⟨hcell, hok.1, fun k A' hk hb => ?_⟩, Nat.le_refl _, fun _ _ => rfl, fun i A' hA' => ?_, rfl⟩
    · rcases hset k A' hk with ⟨rfl, rfl⟩ | ⟨_, hk'⟩
      · have := hok.2 k A hA hb
        rw [hsh, hl, hw]
        exact this
      · exact hok.2 k A' hk' hb
    · by_cases e : i = id
      · subst e
        rw [hA] at hA'
        injection hA' with hA'
        subst hA'
        exact ⟨_, set_at hA, by rw [hl]; exact Nat.le_refl _, hw, fun _ => rfl⟩
      · exact ⟨A', by rw [set_ne e]; exact hA', Nat.le_refl _, rfl, fun _ => rfl⟩
  refine ⟨⟨h.keep, h.lb, by simp [h.lr], fun i cells hi => ?_, fun i A' hA' => ?_, h.fb, h.fr, h.dbb, h.drr, h.dbr, h.no⟩, hc⟩
  · obtain ⟨cs, ty, hh, hs, h1', hr'⟩ := h.box i cells hi
    exact ⟨cs, ty, hh, hs, h1', fun j hj => (hr' j hj).mono hc⟩
  · rcases hset i A' hA' with ⟨rfl, rfl⟩ | ⟨_, hA''⟩
    · obtain ⟨hz, he0, xs, ho, h1, hrr⟩ := h.row i A hA
      refine ⟨A'.w_pos, he, xs, by rw [hety, hw, hl]; exact ho, h1, fun k j hk hj => ?_⟩
      have := hr k (fun j => xs.getD (k * A.w + j) undef) hk (fun j hj => hrr k j (by omega) hj) j hj
      rw [hw]
      exact this.mono hc
    · obtain ⟨hz, he0, xs, ho, h1, hrr⟩ := h.row i A' hA''
      exact ⟨hz, he0, xs, ho, h1, fun k j hk hj => (hrr k j hk hj).mono hc⟩
end
end Go.PE
end

section
/- The evaluator: what an operation does to abstract values (see PeA). -/
set_option linter.unusedVariables false
set_option linter.unusedSimpArgs false
namespace Go.PE
open Go

/-! ### types, as closed facts -/
def ty? (P : Program) (t : TypeId) : Option (Bool × Nat) :=
  match P.info? t, P.underlying t with
  | some i, some (.struct _) => some (true, i.size)
  | some i, some (.array _ _) => some (true, i.size)
  | some i, some _ => if i.size = 1 then some (false, 1) else none
  | _, _ => none
/-- A slice type: element type, cells, bytes. -/
def sl? (P : Program) (t : TypeId) : Option (TypeId × Nat × Nat) :=
  match P.underlying t with
  | some (.slice e) => match P.info? e with
    | some i => match i.zero with
      | some z => if z.cells.size = i.size ∧ 0 < i.size ∧ 0 < i.bytes then some (e, i.size, i.bytes) else none
      | none => none
    | none => none
  | _ => none
def ar? (P : Program) (t : TypeId) : Option (Nat × Nat) :=
  match P.underlying t with
  | some (.array n e) => (P.info? e).map fun i => (n, i.size)
  | _ => none
def fo? (P : Program) (t : TypeId) (f : Nat) : Option (Nat × TypeId) :=
  match P.underlying t with
  | some (.struct fs) => match fs[f]? with
    | some x => match P.info? x.type with
      | some i => if i.size = 0 then none else some (x.offset, x.type)
      | none => none
    | none => none
  | _ => none
/-- What kind of type is it? 0: string, 1: bool, 2: another, 3: interface, 4: array, 5: pointer, 6: slice; 10 + ..: integers -/
def kd? (P : Program) (t : TypeId) : Nat :=
  match P.underlying t with
  | some .string => 0
  | some .bool => 1
  | some (.interface _) => 3
  | some (.array _ _) => 4
  | some (.pointer _) => 5
  | some (.slice _) => 6
  | some (.struct fs) => if fs.toList.all (fun f => (P.info? f.type).isSome) then 7 else 2
  | some (.int k) => match k with | .i8 => 10 | .i16 => 11 | .i32 => 12 | .i64 => 13 | .u8 => 14 | .u16 => 15 | .u32 => 16 | .u64 => 17
  | some _ => 2
  | none => 9
def ik : Nat → Option IntKind
  | 10 => some .i8 | 11 => some .i16 | 12 => some .i32 | 13 => some .i64 | 14 => some .u8 | 15 => some .u16 | 16 => some .u32 | 17 => some .u64
  | _ => none
def meth? (P : Program) (t : TypeId) (name : String) : Option FuncId :=
  match P.info? t with
  | some i => match i.methods.find? (·.name == name) with
    | some m => match m.path.toList, m.func, P.underlying t with
      | [], some (f, true), some (.pointer _) => some f
      | [], some (_, false), some (.pointer _) => none
      | [], some (f, false), some _ => some f
      | _, _, _ => none
    | none => none
  | none => none
/-- Structs that are compared cell by cell: their cells' kinds. -/
def constA : Value → AV
  | .int k n => .d (.int k n)
  | .bool b => .d (.bool b)
  | .string s => .d (.str s.data.toList)
  | .nilIface => .d .nilI
  | .slice none 0 0 => .nilS
  | .pointer none => .d (.raw (.pointer none))
  | .nilFunc => .d (.raw .nilFunc)
  | .map none => .d (.raw (.map none))
  | _ => .undef
/-- The kind of an integer type whose zero is 0. -/
def zi? (P : Program) (t : TypeId) : Option IntKind :=
  match P.info? t with
  | some i => match i.zero with
    | some (.int k n) => if n = 0 then some k else none
    | _ => none
  | none => none
def zero? (P : Program) (t : TypeId) : Option (List AV) :=
  match P.info? t with
  | some i => i.zero.map fun z => z.cells.toList.map constA
  | none => none

/-! ### values -/
def St.ev (st : St) : Operand → AV
  | .tmp t => st.t.getD t .undef
  | .const v => constA v
  | .func f => .fn (.func f) [] []
  | .global _ => .undef
def oneD : D → Bool
  | .agg _ => false
  | _ => true
def oneA : AV → Bool
  | .undef | .agg _ | .tup _ => false
  | .d x => oneD x
  | _ => true
def cellsA : AV → List AV
  | .d (.agg cs) => cs.map .d
  | .agg cs => cs
  | v => [v]
def cellsD : D → List D
  | .agg cs => cs
  | d => [d]
def allD : List AV → Option (List D)
  | [] => some []
  | .d x :: l => (allD l).map (x :: ·)
  | _ :: _ => none
def mkAgg (cs : List AV) : AV := match allD cs with | some ds => .d (.agg ds) | none => .agg cs
def mkV (g : Bool) (cs : List AV) : AV := if g then mkAgg cs else match cs with | [c] => c | _ => .undef
def mkD (g : Bool) (cs : List D) : D := if g then .agg cs else match cs with | [c] => c | _ => .nilI
def splice {α : Type} (cs : List α) (off : Nat) (new : List α) : List α := cs.take off ++ new ++ cs.drop (off + new.length)

mutual
def toD (r : List Arr) : AV → Option D
  | .d x => some x
  | .nilS => some (.list [])
  | .full es => some (.list es)
  | .arr id n => match r[id]? with | some A => if A.sz = 0 then none else if n = A.es.length then some (.list A.es) else none | none => none
  | .agg cs => (toDL r cs).map .agg
  | .iface t x => (toD r x).map (.iface t)
  | _ => none
def toDL (r : List Arr) : List AV → Option (List D)
  | [] => some []
  | x :: l => match toD r x, toDL r l with | some d, some ds => some (d :: ds) | _, _ => none
end
mutual
def arrIds : AV → List Nat
  | .arr id _ => [id]
  | .agg cs => arrIdsL cs
  | .iface _ x => arrIds x
  | _ => []
def arrIdsL : List AV → List Nat
  | [] => []
  | x :: l => arrIds x ++ arrIdsL l
end
def share1 (r : List Arr) (id : Nat) : List Arr := match r[id]? with | some A => r.set id { A with sh := true } | none => r
def share (r : List Arr) : List Nat → List Arr
  | [] => r
  | id :: l => share (share1 r id) l

inductive Res where
  | fail
  | ok (p : Prop) (v : AV) (st : St)
  | elem (p : Prop) (es : List (List D)) (k n : Nat) (st : St)
  | byte (p : Prop) (s : List UInt8) (k : Nat) (st : St)
  | any (p : Prop) (q : Bool → Prop) (st : St)
  | call (g : FuncId) (args : List AV) (st : St)
  | panic (v : AV) (st : St)

def St.new (st : St) (cells : List AV) : St := { st with b := st.b ++ [cells] }
def St.row (st : St) (A : Arr) : St := { st with r := st.r ++ [A] }

def toDR (args : List AV) (st : St) (f : List D → St → Res) : Res :=
  match toDL st.r args with
  | some ds => f ds { st with r := share st.r (arrIdsL args) }
  | none => .fail

/-! ### integers, strings -/
def bitsI (op : BinOp) (k : IntKind) (x y : Int) : Int :=
  let a := BitVec.ofInt k.bits x
  let b := BitVec.ofInt k.bits y
  match op with
  | .and => k.wrap (a &&& b).toNat
  | .or => k.wrap (a ||| b).toNat
  | .xor => k.wrap (a ^^^ b).toNat
  | _ => k.wrap (a &&& ~~~b).toNat
def intR (op : BinOp) (k : IntKind) (x : Int) (k' : IntKind) (y : Int) (st : St) : Res :=
  match op with
  | .add => .ok (k = k') (.d (.int k (k.wrap (x + y)))) st
  | .sub => .ok (k = k') (.d (.int k (k.wrap (x - y)))) st
  | .mul => .ok (k = k') (.d (.int k (k.wrap (x * y)))) st
  | .quo => .ok (k = k' ∧ y ≠ 0) (.d (.int k (k.wrap (x.tdiv y)))) st
  | .rem => .ok (k = k' ∧ y ≠ 0) (.d (.int k (x.tmod y))) st
  | .and | .or | .xor | .andNot => .ok (k = k') (.d (.int k (bitsI op k x y))) st
  | .shl => .ok (0 ≤ y) (.d (.int k (k.wrap (x * 2 ^ (min y.toNat k.bits))))) st
  | .shr => .ok (0 ≤ y) (.d (.int k (x.fdiv (2 ^ (min y.toNat k.bits))))) st
  | .eql => .ok (k = k') (.d (.bool (decide (x = y)))) st
  | .neq => .ok (k = k') (.d (.bool (decide (x ≠ y)))) st
  | .lss => .ok (k = k') (.d (.bool (decide (x < y)))) st
  | .leq => .ok (k = k') (.d (.bool (decide (x ≤ y)))) st
  | .gtr => .ok (k = k') (.d (.bool (decide (y < x)))) st
  | .geq => .ok (k = k') (.d (.bool (decide (y ≤ x)))) st
def strR (op : BinOp) (x y : List UInt8) (st : St) : Res :=
  match op with
  | .add => .ok (x.length + y.length ≤ 9223372036854775807) (.d (.str (x ++ y))) st
  | .eql => .ok True (.d (.bool (decide (x = y)))) st
  | .neq => .ok True (.d (.bool (decide (x ≠ y)))) st
  | .lss => .ok True (.d (.bool (Op.bytesLess x y))) st
  | .leq => .ok True (.d (.bool (Op.bytesLess x y || decide (x = y)))) st
  | .gtr => .ok True (.d (.bool (!(Op.bytesLess x y || decide (x = y))))) st
  | .geq => .ok True (.d (.bool (!Op.bytesLess x y))) st
  | _ => .fail
/-- Cells of plain kinds, compared. -/
def eqD : D → D → Option Bool
  | .int k a, .int k' b => if k = k' then some (decide (a = b)) else none
  | .bool a, .bool b => some (a == b)
  | .str a, .str b => some (decide (a = b))
  | _, _ => none
def eqL : List D → List D → Option Bool
  | [], [] => some true
  | x :: l, y :: m => match eqD x y, eqL l m with | some a, some b => some (a && b) | _, _ => none
  | _, _ => none
/-- Fields one behind the other. -/
def lay (P : Program) : Nat → List Field → Option Nat
  | k, [] => some k
  | k, f :: fs => if f.offset = k then (match P.info? f.type with | some i => lay P (k + i.size) fs | none => none) else none
def catK : List (Option (List Nat)) → Option (List Nat)
  | [] => some []
  | some a :: l => (catK l).map (a ++ ·)
  | none :: _ => none
/-- The kinds of the cells of a type that is compared cell by cell, and is no more than that. -/
def cellK (P : Program) : Nat → TypeId → Option (List Nat)
  | 0, _ => none
  | d + 1, t => match P.info? t, P.underlying t with
    | some i, some .bool => if i.size = 1 then some [1] else none
    | some i, some .string => if i.size = 1 then some [0] else none
    | some i, some (.int _) => if i.size = 1 then some [2] else none
    | some i, some (.struct fs) => if P.stoodInHeld t = false ∧ lay P 0 fs.toList = some i.size ∧ fs.toList.all (fun f => f.name != "_") = true then catK (fs.toList.map fun f => cellK P d f.type) else none
    | _, _ => none
def cellsT (P : Program) (t : TypeId) : Option (List Nat) := if 20 ≤ P.depth then cellK P 20 t else none
def fit1 : Nat → D → Bool
  | 0, .str _ => true
  | 1, .bool _ => true
  | 2, .int _ _ => true
  | _, _ => false
def fits : List Nat → List D → Bool
  | [], [] => true
  | n :: k, x :: l => fit1 n x && fits k l
  | _, _ => false
def isC : Operand → Bool
  | .const _ => true
  | .tmp _ => false
  | .global _ => false
  | .func _ => false
def eqR (P : Program) (neg nc : Bool) (t : TypeId) (x y : D) (st : St) : Res :=
  match x, y with
  | .bool a, .bool b => if kd? P t = 1 then .ok True (.d (.bool ((a == b) != neg))) st else .fail
  | .nilI, .nilI => if kd? P t = 3 ∧ nc = true then .ok True (.d (.bool !neg)) st else .fail
  | .nilI, .iface _ _ => if kd? P t = 3 then .ok True (.d (.bool neg)) st else .fail
  | .iface _ _, .nilI => if kd? P t = 3 then .ok True (.d (.bool neg)) st else .fail
  | .agg a, .agg b => match cellsT P t with
    | some ks => if kd? P t = 7 ∧ (fits ks a && fits ks b) = true then (match eqL a b with | some c => .ok True (.d (.bool (c != neg))) st | none => .fail) else .fail
    | none => .fail
  | _, _ => .fail
def binR (P : Program) (op : BinOp) (nc : Bool) (t : TypeId) (x y : AV) (st : St) : Res :=
  match x, y with
  | .d (.int k a), .d (.int k' b) => intR op k a k' b st
  | .d (.str a), .d (.str b) => strR op a b st
  | .d x, .d y => match op with | .eql => eqR P false nc t x y st | .neq => eqR P true nc t x y st | _ => .fail
  | .d (.list es), .nilS => if kd? P t = 6 then (match op with | .eql => .any True (fun b => es ≠ [] → b = false) st | .neq => .any True (fun b => es ≠ [] → b = true) st | _ => .fail) else .fail
  | .nilS, .nilS => if kd? P t = 6 then (match op with | .eql => .ok True (.d (.bool true)) st | .neq => .ok True (.d (.bool false)) st | _ => .fail) else .fail
  | _, _ => .fail
def unR (op : UnOp) (x : AV) (st : St) : Res :=
  match op, x with
  | .not, .d (.bool b) => .ok True (.d (.bool (!b))) st
  | .neg, .d (.int k n) => .ok True (.d (.int k (k.wrap (0 - n)))) st
  | _, _ => .fail

/-! ### memory -/
/-- What a cell of such a row is told by. -/
def lnkC : AV → Option D
  | .arr id n => some (.ref id n)
  | .d x => if oneD x = true then some x else none
  | .nilS => some (.list [])
  | _ => none
/-- A row some of whose cells are rows. -/
def lkd (r : List Arr) (id : Nat) : Bool := match r[id]? with | some A => if A.sz = 0 then true else false | none => false
/-- A row that is shared is data. -/
def refD (r : List Arr) (id : Nat) : Option (List (List D)) := match r[id]? with
  | some B => if B.sz = 0 then none else if B.sh = true then some B.es else none
  | none => none
def loadR (P : Program) (t : TypeId) (a : AV) (st : St) : Res :=
  match ty? P t, a with
  | some (g, n), .ptr id off => match st.b[id]? with
    | some cells => .ok (off + n ≤ cells.length) (mkV g ((cells.drop off).take n)) st
    | none => .fail
  | some (g, n), .cptr cs => .ok (n ≤ cs.length) (.d (mkD g (cs.take n))) st
  | some (g, n), .eptr id m i off => match st.r[id]? with
    | some A => if A.sz = 0 then (if g = false ∧ n = 1 then (match A.es.getD i [] with
        | [.ref id' n'] => match refD st.r id' with
          | some bs => .ok ((m = A.es.length ∧ i < A.es.length ∧ off = 0) ∧ n' = bs.length) (.d (.list bs)) st
          | none => .ok (m = A.es.length ∧ i < A.es.length ∧ off = 0) (.arr id' n') st
        | [x] => .ok (m = A.es.length ∧ i < A.es.length ∧ off = 0) (.d x) st
        | _ => .fail) else .fail)
      else .ok (m = A.es.length ∧ i < A.es.length ∧ off + n ≤ A.sz) (.d (mkD g (((A.es.getD i []).drop off).take n))) st
    | none => .fail
  | _, _ => .fail
def storeR (P : Program) (t : TypeId) (a v : AV) (st : St) : Res :=
  match ty? P t, a with
  | some (_, n), .ptr id off => match st.b[id]? with
    | some cells => .ok ((cellsA v).length = n ∧ off + n ≤ cells.length ∧ (cellsA v).all oneA = true) .undef { st with b := st.b.set id (splice cells off (cellsA v)) }
    | none => .fail
  | some (_, n), .eptr id m i off => if lkd st.r id = true then (match lnkC v, st.r[id]? with
      | some d, some A => .ok (m = A.es.length ∧ i < A.es.length ∧ off = 0 ∧ n = 1 ∧ A.sh = false) .undef { st with r := st.r.set id { A with es := A.es.set i [d] } }
      | _, _ => .fail)
    else toDR [v] st fun ds st => match ds, st.r[id]? with
    | [d], some A => if A.sz = 0 then .fail else .ok (m = A.es.length ∧ i < A.es.length ∧ (cellsD d).length = n ∧ off + n ≤ A.sz ∧ A.sh = false ∧ (cellsD d).all oneD = true) .undef
        { st with r := st.r.set id { A with es := A.es.set i (splice (A.es.getD i []) off (cellsD d)) } }
    | _, _ => .fail
  | _, _ => .fail
def fieldAddrR (P : Program) (t : TypeId) (f : Nat) (a : AV) (st : St) : Res :=
  match fo? P t f, a with
  | some (o, _), .ptr id off => .ok True (.ptr id (off + o)) st
  | some (o, _), .cptr cs => .ok (o ≤ cs.length) (.cptr (cs.drop o)) st
  | some (o, _), .eptr id m i off => match st.r[id]? with
    | some A => .ok (m = A.es.length) (.eptr id m i (off + o)) st
    | none => .fail
  | _, _ => .fail
def indexAddrR (P : Program) (t : TypeId) (x i : AV) (st : St) : Res :=
  match x, i with
  | .d (.list es), .d (.int _ k) => match sl? P t with
    | some (_, n, _) => .elem (0 ≤ k ∧ k < es.length) es k.toNat n st
    | none => .fail
  | .arr id m, .d (.int _ k) => match sl? P t, st.r[id]? with
    | some (_, n, _), some A => if A.sz = 0 then .ok (m = A.es.length ∧ 0 ≤ k ∧ k < A.es.length ∧ n = 1) (.eptr id m k.toNat 0) st else .ok (m = A.es.length ∧ 0 ≤ k ∧ k < A.es.length ∧ n = A.sz) (.eptr id m k.toNat 0) st
    | _, _ => .fail
  | .ptr id off, .d (.int _ k) => match ar? P t with
    | some (len, n) => .ok (0 ≤ k ∧ k < len) (.ptr id (off + k.toNat * n)) st
    | none => .fail
  | .cptr cs, .d (.int _ k) => match ar? P t with
    | some (len, n) => .ok (0 ≤ k ∧ k < len ∧ k.toNat * n ≤ cs.length) (.cptr (cs.drop (k.toNat * n))) st
    | none => .fail
  | .bsl id m, .d (.int _ k) => match sl? P t with
    | some (_, n, _) => .ok (0 ≤ k ∧ k < m) (.ptr id (k.toNat * n)) st
    | none => .fail
  | _, _ => .fail
def indexR (P : Program) (t : TypeId) (x i : AV) (st : St) : Res :=
  match x, i with
  | .d (.str s), .d (.int _ k) => if kd? P t = 0 then .byte (0 ≤ k ∧ k < s.length) s k.toNat st else .fail
  | _, _ => .fail
def aggA : AV → Bool
  | .agg _ | .d (.agg _) => true
  | _ => false
def fieldR (P : Program) (t : TypeId) (x : AV) (f : Nat) (st : St) : Res :=
  match fo? P t f with
  | some (o, ft) => match ty? P ft with
    | some (g, n) => .ok (o + n ≤ (cellsA x).length ∧ aggA x = true) (mkV g (((cellsA x).drop o).take n)) st
    | none => .fail
  | none => .fail
def boundA (d : Int) : Option AV → Option Int
  | none => some d
  | some (.d (.int _ k)) => some k
  | some _ => none
def slice3R (P : Program) (t : TypeId) (x : AV) (lo hi : Option AV) (mv : AV) (st : St) : Res :=
  match x, mv with
  | .d (.list es), .d (.int _ q) => match boundA 0 lo, boundA es.length hi with
    | some l, some h => match sl? P t with
      | some (_, n, _) => if kd? P t = 6 ∧ hi.isSome = true then .ok ((0 ≤ l ∧ l ≤ h ∧ h ≤ q ∧ q ≤ es.length) ∧ ∀ e ∈ es, e.length = n) (if h = q then .full ((es.take h.toNat).drop l.toNat) else .d (.list ((es.take h.toNat).drop l.toNat))) st else .fail
      | none => .fail
    | _, _ => .fail
  | _, _ => .fail
def sliceR (P : Program) (t : TypeId) (x : AV) (lo hi mx : Option AV) (st : St) : Res :=
  match mx, x with
  | none, .d (.list es) => match boundA 0 lo, boundA es.length hi with
    | some l, some h => if kd? P t = 6 then (match sl? P t with | some (_, n, _) => .ok ((0 ≤ l ∧ l ≤ h ∧ h ≤ es.length) ∧ ∀ e ∈ es, e.length = n) (.d (.list ((es.take h.toNat).drop l.toNat))) st | none => .fail) else .fail
    | _, _ => .fail
  | none, .arr id m => match st.r[id]? with
    | some A => match boundA 0 lo, boundA A.es.length hi with
      | some l, some h => match sl? P t with
        | some (_, n, _) => if A.sz = 0 then .fail else .ok ((0 ≤ l ∧ l ≤ h ∧ h ≤ A.es.length) ∧ m = A.es.length ∧ n = A.sz) (.d (.list ((A.es.take h.toNat).drop l.toNat))) { st with r := share1 st.r id }
        | none => .fail
      | _, _ => .fail
    | none => .fail
  | none, .d (.str s) => match boundA 0 lo, boundA s.length hi with
    | some l, some h => if kd? P t = 0 then .ok (0 ≤ l ∧ l ≤ h ∧ h ≤ s.length) (.d (.str ((s.take h.toNat).drop l.toNat))) st else .fail
    | _, _ => .fail
  | none, .nilS => match boundA 0 lo, boundA 0 hi with
    | some l, some h => match sl? P t with
      | some _ => .ok (l = 0 ∧ h = 0) .nilS st
      | none => .fail
    | _, _ => .fail
  | some mv, x => slice3R P t x lo hi mv st
  | _, _ => .fail

/-! ### making -/
def assignR (P : Program) (t : TypeId) (v : AV) (st : St) : Res :=
  match v with
  | .nilS => match sl? P t with
    | some (e, n, _) => .ok True (.arr st.r.length 0) (st.row ⟨n, e, [], false⟩)
    | none => .ok True .nilS st
  | v => .ok True v st
def allocR (P : Program) (t : TypeId) (st : St) : Res :=
  match zero? P t with
  | some z => .ok (z.all oneA = true) (.ptr st.b.length 0) (st.new z)
  | none => .fail
def boxR (v : AV) (st : St) : Res := .ok ((cellsA v).all oneA = true) (.ptr st.b.length 0) (st.new (cellsA v))
def fillA (pl : Nat → Option (Nat × Nat)) (z : List AV) : List (Nat × AV) → Option (List AV)
  | [] => some z
  | (f, v) :: l => match pl f with
    | some (o, n) => if (cellsA v).length = n ∧ o + n ≤ z.length ∧ (cellsA v).all oneA = true then fillA pl (splice z o (cellsA v)) l else none
    | none => none
def plS (P : Program) (t : TypeId) (f : Nat) : Option (Nat × Nat) :=
  match fo? P t f with
  | some (o, ft) => (ty? P ft).map fun g => (o, g.2)
  | none => none
def plA (n i : Nat) : Option (Nat × Nat) := some (i * n, n)
def buildR (P : Program) (t : TypeId) (ps : List (Nat × AV)) (st : St) : Res :=
  match zero? P t with
  | some z => if z.all oneA = true then (match kd? P t, ar? P t with
    | 7, _ => match fillA (plS P t) z ps with | some cs => .ok True (mkAgg cs) st | none => .fail
    | 4, some (_, n) => match fillA (plA n) z ps with | some cs => .ok True (mkAgg cs) st | none => .fail
    | _, _ => .fail) else .fail
  | none => .fail
/-- Is there a row some of whose cells are rows? Then a row of one slice that is made keeps it as a row. -/
def anyL : List Arr → Bool
  | [] => false
  | A :: l => if A.sz = 0 then true else anyL l
def lnk1 (r : List Arr) : List (Nat × AV) → Option (Nat × Nat × Nat)
  | [(i, .arr id n)] => if anyL r = true then some (i, id, n) else none
  | _ => none
/-- Is there a function with captures among the parts? Such a slice lies over a box of its own. -/
def fnO : AV → Bool
  | .fn _ _ _ => true
  | _ => false
def fnL : List AV → Bool
  | [] => false
  | x :: l => fnO x || fnL l
def fnA : AV → Bool
  | .fn _ _ _ => true
  | .agg cs => fnL cs
  | _ => false
def hasFn : List AV → Bool
  | [] => false
  | x :: l => fnA x || hasFn l
def catA : List AV → List AV
  | [] => []
  | x :: l => cellsA x ++ catA l
def bsliceR (P : Program) (t : TypeId) (len : Nat) (ps : List (Nat × AV)) (st : St) : Res :=
  match sl? P t with
  | some (e, n, _) => match lnk1 st.r ps with
    | some (i, id, m) => .ok (i = 0 ∧ len = 1 ∧ n = 1) (.arr st.r.length 1) (st.row ⟨0, e, [[.ref id m]], false⟩)
    | none => if hasFn (ps.map (·.2)) = true then .ok (ps.map (·.1) = List.range len ∧ (0 < len ∧ len * n ≤ 16777216) ∧ (ps.map (·.2)).all (fun d => decide ((cellsA d).length = n) && (cellsA d).all oneA) = true) (.bsl st.b.length len) (st.new (catA (ps.map (·.2))))
     else toDR (ps.map (·.2)) st fun ds st =>
      .ok (ps.map (·.1) = List.range len ∧ len * n ≤ 16777216 ∧ ds.all (fun d => decide ((cellsD d).length = n) && (cellsD d).all oneD) = true) (.arr st.r.length len) (st.row ⟨n, e, ds.map cellsD, false⟩)
  | none => .fail
def mkSliceR (P : Program) (t : TypeId) (l c : AV) (st : St) : Res :=
  match sl? P t, l, c with
  | some (e, n, by_), .d (.int _ a), .d (.int _ b) => match zero? P e with
    | some z => match toDL [] z with
      | some ds => .ok (0 ≤ a ∧ a ≤ b ∧ b * by_ ≤ 140737488355328 ∧ ds.all oneD = true) (.arr st.r.length a.toNat) (st.row ⟨n, e, List.replicate a.toNat ds, false⟩)
      | none => .fail
    | none => .fail
  | _, _, _ => .fail
def mkIfR (P : Program) (t : TypeId) (x : AV) (st : St) : Res :=
  if kd? P t = 3 ∨ kd? P t = 9 then .fail else match x with
  | .d x => .ok True (.d (.iface t x)) st
  | x => .ok True (.iface t x) st
def extractR (x : AV) (i : Nat) (st : St) : Res :=
  match x with
  | .tup cs => match cs[i]? with | some c => .ok True c st | none => .fail
  | _ => .fail
def nilCheckR (x : AV) (st : St) : Res :=
  match x with
  | .ptr _ _ => .ok True x st
  | .cptr _ => .ok True x st
  | .eptr id m _ _ => match st.r[id]? with
    | some A => .ok (m = A.es.length) x st
    | none => .fail
  | .fn (.func _) _ _ => .ok True x st
  | _ => .fail
def pickR (c a b : AV) (st : St) : Res :=
  match c with
  | .d (.bool c) => .ok True (if c then a else b) st
  | _ => .fail
def bytesD : List (List D) → Option (List UInt8)
  | [] => some []
  | [.int .u8 n] :: l => (bytesD l).map (UInt8.ofNat n.toNat :: ·)
  | _ :: _ => none
def convR (P : Program) (s t : TypeId) (x : AV) (st : St) : Res :=
  if kd? P s = 9 then .fail else match x with
  | .d (.int _ n) => match ik (kd? P t) with | some k => .ok True (.d (.int k (k.wrap n))) st | none => .fail
  | .d (.str l) => if kd? P s = 0 ∧ kd? P t = 0 then .ok True x st else .fail
  | x => if kd? P t = 0 then toDR [x] st fun ds st => match ds, sl? P s with
      | [.list es], some (e, _, _) => if kd? P e = 14 then (match bytesD es with | some l => .ok True (.d (.str l)) st | none => .fail) else .fail
      | _, _ => .fail
    else .fail

/-! ### builtins -/
def lenR (P : Program) (t : TypeId) (x : AV) (st : St) : Res :=
  match x with
  | .d (.list es) => if kd? P t = 6 then .ok True (.d (.int .i64 es.length)) st else .fail
  | .nilS => if kd? P t = 6 then .ok True (.d (.int .i64 0)) st else .fail
  | .arr id m => if kd? P t = 6 then (match st.r[id]? with | some A => .ok (m = A.es.length) (.d (.int .i64 m)) st | none => .fail) else .fail
  | .d (.str s) => if kd? P t = 0 then .ok True (.d (.int .i64 s.length)) st else .fail
  | .bsl _ m => if kd? P t = 6 then .ok True (.d (.int .i64 m)) st else .fail
  | .full es => if kd? P t = 6 then .ok True (.d (.int .i64 es.length)) st else .fail
  | _ => .fail
def byteCell (b : UInt8) : List D := [.int .u8 b.toNat]
/-- What is appended. -/
def srcA (P : Program) (tx : TypeId) (n : Nat) (y : AV) (st : St) : Option (Prop × List (List D)) :=
  match y with
  | .nilS => if kd? P tx = 6 then some (True, []) else none
  | .d (.list es) => if kd? P tx = 6 then some (∀ e ∈ es, e.length = n, es) else none
  | .arr id m => if kd? P tx = 6 then (match st.r[id]? with | some A => if A.sz = 0 then none else some (m = A.es.length ∧ A.sz = n, A.es) | none => none) else none
  | .d (.str s) => if kd? P tx = 0 then some (n = 1, s.map byteCell) else none
  | _ => none
/-- A row some of whose cells are rows, and what may be appended to it. -/
def lnkA (r : List Arr) (x : AV) : Option (Nat × Nat × Arr) := match x with
  | .arr id m => match r[id]? with | some A => if A.sz = 0 then some (id, m, A) else none | none => none
  | _ => none
def srcL (P : Program) (tx : TypeId) (r : List Arr) (y : AV) : Option (Prop × List (List D)) := match y with
  | .arr id m => if kd? P tx = 6 then (match r[id]? with | some B => some (m = B.es.length ∧ B.sz ≤ 1, B.es) | none => none) else none
  | _ => none
/-- So many zero values, appended to nil. -/
def zerosR (P : Program) (tx e : TypeId) (n by_ : Nat) (x y : AV) (st : St) : Res :=
  match x, y with
  | .nilS, .d (.int _ k) => match ik (kd? P tx), zero? P e with
    | some _, some z => match toDL [] z with
      | some ds => .ok (0 < k ∧ k * by_ ≤ 140737488355328 ∧ ds.all oneD = true) (.arr st.r.length k.toNat) (st.row ⟨n, e, List.replicate k.toNat ds, false⟩)
      | none => .fail
    | _, _ => .fail
  | _, _ => .fail
def appendR (P : Program) (t tx : TypeId) (x y : AV) (st : St) : Res :=
  match sl? P t with
  | some (e, n, by_) => match lnkA st.r x with
   | some (id, m, A) => match srcL P tx st.r y with
    | some (p, news) => .ok (p ∧ n = 1 ∧ m = A.es.length ∧ A.ety = e ∧ (A.es.length + news.length) * by_ ≤ 140737488355328) (.arr id (A.es ++ news).length) { st with r := st.r.set id { A with es := A.es ++ news } }
    | none => .fail
   | none => match srcA P tx n y st with
    | some (p, news) => match x with
      | .nilS => .ok (p ∧ news.length * by_ ≤ 140737488355328) (.arr st.r.length news.length) (st.row ⟨n, e, news, false⟩)
      | .arr id m => match st.r[id]? with
        | some A => if A.sz = 0 then .fail else .ok (p ∧ m = A.es.length ∧ A.sz = n ∧ A.ety = e ∧ (A.es.length + news.length) * by_ ≤ 140737488355328) (.arr id (A.es ++ news).length) { st with r := st.r.set id { A with es := A.es ++ news } }
        | none => .fail
      | .full es => .ok (p ∧ 0 < news.length ∧ (∀ e ∈ es, e.length = n) ∧ (es.length + news.length) * by_ ≤ 140737488355328) (.arr st.r.length (es ++ news).length) (st.row ⟨n, e, es ++ news, false⟩)
      | _ => .fail
    | none => zerosR P tx e n by_ x y st
  | none => .fail
/-- copy: all of the source goes into a row. -/
def copyR (P : Program) (t tx : TypeId) (x y : AV) (st : St) : Res :=
  match sl? P t with
  | some (e, n, _) => match srcA P tx n y st with
    | some (p, news) => match x with
      | .arr id m => match st.r[id]? with
        | some A => if A.sz = 0 then .fail else .ok (p ∧ m = A.es.length ∧ A.sz = n ∧ news.length ≤ A.es.length ∧ A.sh = false) (.d (.int .i64 news.length)) { st with r := st.r.set id { A with es := news ++ A.es.drop news.length } }
        | none => .fail
      | _ => .fail
    | none => .fail
  | none => .fail
def capR (P : Program) (t : TypeId) (x : AV) (st : St) : Res := match x with
  | .nilS => if kd? P t = 6 then .ok True (.d (.int .i64 0)) st else .fail
  | _ => .fail
def mmR (mx : Bool) (x y : AV) (st : St) : Res :=
  match x, y with
  | .d (.int k a), .d (.int _ b) => .ok True (.d (.int k (if mx then max a b else min a b))) st
  | .d (.str a), .d (.str b) => if mx then .ok True (.d (.str (if Op.bytesLess a b then b else a))) st else .ok True (.d (.str (if Op.bytesLess a b || decide (a = b) then a else b))) st
  | _, _ => .fail
def builtinR (P : Program) (b : Builtin) (ats : List TypeId) (args : List AV) (st : St) : Res :=
  match b, ats, args with
  | .len, [t], [x] => lenR P t x st
  | .append, [t, tx], [x, y] => appendR P t tx x y st
  | .copy, [t, tx], [x, y] => copyR P t tx x y st
  | .cap, [t], [x] => capR P t x st
  | .min, _, [x, y] => mmR false x y st
  | .max, _, [x, y] => mmR true x y st
  | _, _, _ => .fail
def invokeR (P : Program) (recv : AV) (name : String) (args : List AV) (st : St) : Res :=
  match recv with
  | .d (.iface t d) => match meth? P t name with | some f => .call f (.d d :: args) st | none => .fail
  | .iface t x => match meth? P t name with | some f => .call f (x :: args) st | none => .fail
  | _ => .fail
def callR (P : Program) (c : Call) (st : St) : Res :=
  match c.callee with
  | .builtin b => builtinR P b c.argTypes.toList (c.args.toList.map st.ev) st
  | .value f => match st.ev f with
    | .fn (.func g) first caps => .call g (first ++ c.args.toList.map st.ev ++ caps) st
    | _ => .fail
  | .invoke recv name => invokeR P (st.ev recv) name (c.args.toList.map st.ev) st

def assertR (P : Program) (ty : TypeId) (ok : Bool) (x : AV) (st : St) : Res :=
  match ok, x with
  | true, .d (.iface t d) => if kd? P ty ≠ 3 ∧ kd? P ty ≠ 9 ∧ t = ty then .ok True (.tup [.d d, .d (.bool true)]) st else .fail
  | true, .d .nilI => if kd? P ty ≠ 9 then (match zi? P ty with | some k => .ok True (.tup [.d (.int k 0), .d (.bool false)]) st | none => .fail) else .fail
  | _, _ => .fail
def panicR (x : AV) (st : St) : Res :=
  match x with
  | .d (.iface t d) => .panic (.d (.iface t d)) st
  | .iface t x => .panic (.iface t x) st
  | _ => .fail

def opR (P : Program) (o : Oper) (st : St) : Res :=
  match o.op with
  | .move x => .ok True (st.ev x) st
  | .assign x => assignR P o.type (st.ev x) st
  | .pick c a b => pickR (st.ev c) (st.ev a) (st.ev b) st
  | .alloc t => allocR P t st
  | .box _ x => boxR (st.ev x) st
  | .build t ps => buildR P t (ps.toList.map fun p => (p.1, st.ev p.2)) st
  | .buildSlice t n ps => bsliceR P t n (ps.toList.map fun p => (p.1, st.ev p.2)) st
  | .load t a => loadR P t (st.ev a) st
  | .store t a x => storeR P t (st.ev a) (st.ev x) st
  | .nilCheck x => nilCheckR (st.ev x) st
  | .binOp op t x y _ => binR P op (isC x || isC y) t (st.ev x) (st.ev y) st
  | .unOp op _ x => unR op (st.ev x) st
  | .convert s t x => convR P s t (st.ev x) st
  | .makeInterface t x => mkIfR P t (st.ev x) st
  | .makeFunc f a b => .ok True (.fn f (a.toList.map st.ev) (b.toList.map st.ev)) st
  | .makeSlice t l c => mkSliceR P t (st.ev l) (st.ev c) st
  | .slice t x lo hi mx => sliceR P t (st.ev x) (lo.map st.ev) (hi.map st.ev) (mx.map st.ev) st
  | .fieldAddr t x f => fieldAddrR P t f (st.ev x) st
  | .field t x f => fieldR P t (st.ev x) f st
  | .indexAddr t x i => indexAddrR P t (st.ev x) (st.ev i) st
  | .index t x i => indexR P t (st.ev x) (st.ev i) st
  | .extract x i => extractR (st.ev x) i st
  | .call c => callR P c st
  | .panic x => panicR (st.ev x) st
  | .typeAssert x _ ty ok => assertR P ty ok (st.ev x) st
  | _ => .fail
end Go.PE
end

section
/- The evaluator is right, 1: values, loads, stores, addresses (see PeA, PeD). -/
set_option linter.unusedVariables false
set_option linter.unusedSimpArgs false
namespace Go.PE
open Go

section
variable {w : World} {M : Mem} {r : List Arr}

theorem RepA.raw {v : Value} (h : RawOk v) : RepA w M r v (.d (.raw v)) := .d _ _ (.raw _ h)

theorem constA_rep (v : Value) : RepA w M r v (constA v) := by
  unfold constA
  split <;> first
    | exact .d _ _ (.int _ _)
    | exact .d _ _ (.bool _)
    | exact .d _ _ (.str _)
    | exact .d _ _ .nilI
    | exact .nilS
    | exact .raw trivial
    | exact .undef _

theorem ev_rep {a : Act} {st : St} (h : Rept w M r a.tmps st.t) (x : Operand) : RepA w M r (a.eval x) (st.ev x) := by
  cases x with
  | tmp t =>
    show RepA w M r (a.tmps.getD t undef) (st.t.getD t .undef)
    rcases Nat.lt_or_ge t st.t.length with h1 | h1
    · exact h.2 t h1
    · have e : st.t.getD t .undef = .undef := by simp [List.getD, List.getElem?_eq_none h1]
      rw [e]
      exact .undef _
  | const v => exact constA_rep v
  | global g => exact .undef _
  | func f => exact .fn _ _ _ _ _ rfl rfl (fun i hi => absurd hi (by simp)) (fun i hi => absurd hi (by simp))

theorem RepA.d_inv {v : Value} {x : D} (h : RepA w M r v (.d x)) : Rep w (Okc M r) v x := by
  cases h
  assumption

theorem RawOk.one {v : Value} (h : RawOk v) : v.oneCell' = true := by
  unfold RawOk at h
  split at h <;> first | rfl | exact h.elim

theorem Rep.one {ok : Addr → Prop} {v : Value} {x : D} (h : Rep w ok v x) (hx : oneD x = true) : v.oneCell' = true := by
  cases h with
  | agg => cases hx
  | raw _ h => exact h.one
  | _ => rfl
theorem RepA.one {v : Value} {x : AV} (h : RepA w M r v x) (hx : oneA x = true) : v.oneCell' = true := by
  cases h with
  | undef => cases hx
  | d _ _ h => exact h.one hx
  | agg => cases hx
  | tup => cases hx
  | arr _ _ _ h => exact h
  | eptr _ _ _ _ _ h => exact h
  | _ => rfl
theorem cells_one {v : Value} (h : v.oneCell' = true) : v.cells = #[v] := by
  cases v <;> first | rfl | cases h

/-- The cells of a value, and what they are. -/
structure CellsOk (w : World) (M : Mem) (r : List Arr) (cs : Array Value) (xs : List AV) : Prop where
  size : cs.size = xs.length
  one : ∀ j, j < xs.length → (cs.getD j undef).oneCell' = true
  rep : ∀ j, j < xs.length → RepA w M r (cs.getD j undef) (xs.getD j .undef)

theorem allA {xs : List AV} (h : xs.all oneA = true) : ∀ j, j < xs.length → oneA (xs.getD j .undef) = true := by
  intro j hj
  have e : xs.getD j .undef = xs[j] := by simp [List.getD, hj]
  rw [e]
  exact List.all_eq_true.1 h _ (List.getElem_mem hj)

theorem CellsOk.mk' {cs : Array Value} {xs : List AV} (hs : cs.size = xs.length) (h1 : xs.all oneA = true) (hr : ∀ j, j < xs.length → RepA w M r (cs.getD j undef) (xs.getD j .undef)) : CellsOk w M r cs xs :=
  ⟨hs, fun j hj => (hr j hj).one (allA h1 j hj), hr⟩

theorem getD_map_d (l : List D) (j : Nat) (hj : j < l.length) : (l.map AV.d).getD j .undef = .d (l.getD j .nilI) := by
  simp [List.getD, hj]

theorem cells_rep1 {v : Value} {x : AV} (h : RepA w M r v x) (hv : v.oneCell' = true) (hx : cellsA x = [x]) : CellsOk w M r v.cells (cellsA x) := by
  rw [cells_one hv, hx]
  refine ⟨rfl, fun j hj => ?_, fun j hj => ?_⟩ <;>
    (have e : j = 0 := by
      simp at hj
      exact hj
     subst e)
  · exact hv
  · exact h

theorem cells_rep {v : Value} {x : AV} (h : RepA w M r v x) (h1 : (cellsA x).all oneA = true) : CellsOk w M r v.cells (cellsA x) := by
  cases x with
  | d x =>
    cases x with
    | agg cs =>
      cases h with
      | d _ _ h =>
        cases h with
        | agg vs cs hs _ hr =>
          refine .mk' (by simpa [cellsA, Value.cells] using hs) h1 (fun j hj => ?_)
          simp only [cellsA, List.length_map] at hj
          show RepA w M r (vs.getD j undef) _
          rw [cellsA, getD_map_d _ _ hj]
          exact .d _ _ (hr j hj)
    | _ => exact cells_rep1 h (h.one (by simpa [cellsA] using h1)) rfl
  | agg cs =>
    cases h with
    | agg vs cs hs h1' hr => exact ⟨hs, h1', hr⟩
  | _ => exact cells_rep1 h (h.one (by simpa [cellsA] using h1)) rfl

theorem allD_spec : ∀ {cs : List AV} {ds : List D}, allD cs = some ds → cs = ds.map .d
  | [], ds, h => by simp [allD] at h; subst h; rfl
  | .d x :: l, ds, h => by
    simp only [allD, Option.map_eq_some_iff] at h
    obtain ⟨ds', h1, rfl⟩ := h
    simp [allD_spec h1]
  | .undef :: _, _, h | .agg _ :: _, _, h | .nilS :: _, _, h | .arr _ _ :: _, _, h | .ptr _ _ :: _, _, h | .cptr _ :: _, _, h | .eptr _ _ _ _ :: _, _, h | .tup _ :: _, _, h | .iface _ _ :: _, _, h | .fn _ _ _ :: _, _, h | .bsl _ _ :: _, _, h | .full _ :: _, _, h => by simp [allD] at h

theorem mkAgg_rep {vs : Array Value} {cs : List AV} (h : CellsOk w M r vs cs) : RepA w M r (.agg vs) (mkAgg cs) := by
  unfold mkAgg
  cases e : allD cs with
  | none => exact .agg vs cs h.size h.one h.rep
  | some ds =>
    obtain rfl := allD_spec e
    refine .d _ _ (.agg vs ds (by simpa using h.size) (fun i hi => h.one i (by simpa using hi)) (fun i hi => ?_))
    have := h.rep i (by simpa using hi)
    rw [getD_map_d _ _ hi] at this
    exact this.d_inv

/-- A value of a type, out of its cells. -/
def mkVal (g : Bool) (vs : Array Value) : Value := if g then .agg vs else vs.getD 0 undef
theorem mkV_rep {g : Bool} {vs : Array Value} {cs : List AV} (h : CellsOk w M r vs cs) (hg : g = false → cs.length = 1) : RepA w M r (mkVal g vs) (mkV g cs) := by
  cases g with
  | true => exact mkAgg_rep h
  | false =>
    match cs, hg rfl with
    | [c], _ => exact h.rep 0 (by simp)
theorem mkD_rep {ok : Addr → Prop} {g : Bool} {vs : Array Value} {cs : List D} (hs : vs.size = cs.length) (h1 : ∀ j, j < cs.length → (vs.getD j undef).oneCell' = true) (hr : ∀ j, j < cs.length → Rep w ok (vs.getD j undef) (cs.getD j .nilI))
    (hg : g = false → cs.length = 1) : Rep w ok (mkVal g vs) (mkD g cs) := by
  cases g with
  | true => exact .agg vs cs hs h1 hr
  | false =>
    match cs, hg rfl with
    | [c], _ => exact hr 0 (by simp)
end

/-! ### types -/
section
variable {P : Program}
theorem ty_info {t : TypeId} {g : Bool} {n : Nat} (h : ty? P t = some (g, n)) : ∃ i, P.info? t = some i ∧ i.size = n ∧ (g = false → n = 1) ∧
    ∀ w : World, (isAgg t).run P w = .ok g w := by
  unfold ty? at h
  cases hi : P.info? t with
  | none => simp [hi] at h
  | some i =>
    cases hu : P.underlying t with
    | none => simp [hi, hu] at h
    | some d =>
      rw [hi, hu] at h
      refine ⟨i, rfl, ?_⟩
      cases d with
      | struct fs => simp at h; obtain ⟨rfl, rfl⟩ := h; exact ⟨rfl, by simp, fun w => by simp [isAgg, run_underlying hu]⟩
      | array m e => simp at h; obtain ⟨rfl, rfl⟩ := h; exact ⟨rfl, by simp, fun w => by simp [isAgg, run_underlying hu]⟩
      | _ => simp at h; obtain ⟨h1, rfl, rfl⟩ := h; exact ⟨h1, by simp, fun w => by simp [isAgg, run_underlying hu]⟩

theorem run_loadVar_cells {t : TypeId} {g : Bool} {n : Nat} (h : ty? P t = some (g, n)) (w : World) (a : Addr) (cs : List Value) (hl : cs.length = n) (hc : ∀ j v, cs[j]? = some v → w.cell? (a.add j) = some v) :
    (loadVar t a).run P w = .ok (mkVal g cs.toArray) w := by
  obtain ⟨i, hi, hsz, hg, hagg⟩ := ty_info h
  unfold loadVar
  cases g with
  | true =>
    have hs : (sizeOf t).run P w = .ok n w := by simp [sizeOf, typeInfo, hi, hsz]
    have hld := run_loadCells_list (P := P) w a cs hc
    rw [hl] at hld
    simp only [Sem.run_bind, hagg, Result.andThen_ok, if_true, hs, hld]
    simp [mkVal]
  | false =>
    have hn := hg rfl
    match cs, hl.trans hn with
    | [c], _ =>
      have h0 := hc 0 c rfl
      have e : a.add 0 = a := by simp [Addr.add]
      rw [e] at h0
      simp only [Sem.run_bind, hagg, Result.andThen_ok, Bool.false_eq_true, if_false]
      simp [load, Sem.run, h0, mkVal]

theorem run_storeVar_at {t : TypeId} {g : Bool} {n : Nat} (h : ty? P t = some (g, n)) (w : World) (b o : Nat) (v : Value) (cur : Array Value) (ty : TypeId) (hb : w.heap[b]? = some (.cells cur ty (0, 0)))
    (hn : v.cells.size = n) (hf : o + n ≤ cur.size) (h1 : ∀ u ∈ v.cells.toList, u.oneCell' = true) :
    (storeVar t ⟨b, o, none⟩ v).run P w = .ok () (w.setRow b (cur.toList.take o ++ v.cells.toList ++ cur.toList.drop (o + v.cells.toList.length)).toArray) := by
  obtain ⟨i, hi, hsz, hg, hagg⟩ := ty_info h
  have hst := run_storeCells_at (P := P) b o ty v.cells.toList 0 cur w hb (by simp; omega) h1
  simp only [Nat.add_zero] at hst
  simp [storeVar, sizeOf, typeInfo, hi, hsz, hn, hst]
end
end Go.PE
end

section
/- The evaluator is right, 2: loads, stores, addresses (see PeA, PeD). -/
set_option linter.unusedVariables false
set_option linter.unusedSimpArgs false
namespace Go.PE
open Go

def Res.sem (R : Res) (K : AV → St → Prop) : Prop :=
  match R with
  | .ok p v st => p ∧ K v st
  | .elem p es k n st => p ∧ ∀ x, es[k]? = some x → x.length = n ∧ K (.cptr x) st
  | .byte p s k st => p ∧ ∀ c, s[k]? = some c → K (.d (.int .u8 (c.toNat : Int))) st
  | .any p q st => p ∧ ∀ b, q b → K (.d (.bool b)) st
  | _ => False

/-- What an operation comes to. -/
def OpOk (P : Program) (w0 : World) (F : List Nat) (M : Mem) (t : List AV) (r : List Arr) (w : World) (s : Sem Value) (K : AV → St → Prop) : Prop :=
  ∃ v st' M' w' u, K v st' ∧ s.run P w = .ok u w' ∧ Inv w0 F M' st'.b st'.r w' ∧ Chg w M r w' M' st'.r ∧ RepA w' M' st'.r u v ∧ st'.t = t

theorem getD_sub {α : Type} (xs : List α) (o n j : Nat) (x : α) (hj : j < n) : ((xs.drop o).take n).getD j x = xs.getD (o + j) x := by
  simp only [List.getD, List.getElem?_take, if_pos hj, List.getElem?_drop]
theorem len_sub {α : Type} (xs : List α) (o n : Nat) (h : o + n ≤ xs.length) : ((xs.drop o).take n).length = n := by
  simp; omega
theorem toArray_getD {α : Type} (xs : List α) (j : Nat) (x : α) : xs.toArray.getD j x = xs.getD j x := by
  simp [Array.getD, List.getD]
  split <;> simp_all
theorem toList_getD {α : Type} (xs : Array α) (j : Nat) (x : α) : xs.toList.getD j x = xs.getD j x := by
  simp [Array.getD, List.getD]
  split <;> simp_all

section
variable {P : Program} {w0 : World} {F : List Nat} {M : Mem} {st : St} {w : World} {K : AV → St → Prop}

theorem CellsOk.sub {r : List Arr} {cs : Array Value} {xs : List AV} (h : CellsOk w M r cs xs) (o n : Nat) (hn : o + n ≤ xs.length) : CellsOk w M r ((cs.toList.drop o).take n).toArray ((xs.drop o).take n) := by
  have hl : ((xs.drop o).take n).length = n := len_sub xs o n hn
  refine ⟨by rw [List.size_toArray, len_sub _ _ _ (by simp [h.size]; omega), hl], fun j hj => ?_, fun j hj => ?_⟩ <;> rw [hl] at hj <;> rw [toArray_getD, getD_sub _ _ _ _ _ hj, toList_getD]
  · exact h.one _ (by omega)
  · rw [getD_sub _ _ _ _ _ hj]
    exact h.rep _ (by omega)

theorem ok_stay (h : Inv w0 F M st.b st.r w) {s : Sem Value} {u : Value} {v : AV} (hK : K v st) (hr : s.run P w = .ok u w) (hv : RepA w M st.r u v) : OpOk P w0 F M st.t st.r w s K :=
  ⟨v, st, M, w, u, hK, hr, h, Chg.refl _ _ _, hv, rfl⟩

theorem box_cells (h : Inv w0 F M st.b st.r w) {id : Nat} {cells : List AV} (hb : st.b[id]? = some cells) : ∃ cs ty, w.heap[M.blk id]? = some (.cells cs ty (0, 0)) ∧ CellsOk w M st.r cs cells := by
  obtain ⟨cs, ty, hh, hs, h1, hr⟩ := h.box id cells hb
  exact ⟨cs, ty, hh, hs, h1, hr⟩

theorem cell_at {b o : Nat} {cs : Array Value} {ty : TypeId} {fr : Nat × Nat} (hh : w.heap[b]? = some (.cells cs ty fr)) (j : Nat) : w.cell? ((⟨b, o, none⟩ : Addr).add j) = cs.toList[o + j]? := by
  rw [Addr.add_lit]
  simp [World.cell?, hh]

theorem refD_spec {r : List Arr} {id : Nat} {bs : List (List D)} (h : refD r id = some bs) : ∃ B, r[id]? = some B ∧ B.sz ≠ 0 ∧ B.sh = true ∧ bs = B.es := by
  unfold refD at h
  split at h
  · rename_i B hB
    split at h
    · cases h
    · rename_i h0
      split at h
      · rename_i hsh
        injection h with h
        exact ⟨B, hB, h0, hsh, h.symm⟩
      · cases h
  · cases h
theorem load_sound {t : TypeId} {x : AV} {u : Value} (h : Inv w0 F M st.b st.r w) (hx : RepA w M st.r u x) (hs : (loadR P t x st).sem K) : OpOk P w0 F M st.t st.r w (Instr.loadAt t u) K := by
  unfold loadR at hs
  cases hty : ty? P t with
  | none => simp [hty, Res.sem] at hs
  | some gn =>
    obtain ⟨g, n⟩ := gn
    have hg1 : g = false → n = 1 := (ty_info hty).choose_spec.2.2.1
    rw [hty] at hs
    cases x with
    | ptr id off =>
      cases hb : st.b[id]? with
      | none => simp [hb, Res.sem] at hs
      | some cells =>
        simp only [hb, Res.sem] at hs
        obtain ⟨hn, hK⟩ := hs
        obtain ⟨cs, ty, hh, hc⟩ := box_cells h hb
        cases hx
        have hcs : off + n ≤ cs.toList.length := by have := hc.size; simp; omega
        have hsub := hc.sub off n hn
        refine ok_stay h hK (u := mkVal g ((cs.toList.drop off).take n).toArray) ?_ (mkV_rep hsub (fun e => by rw [len_sub _ _ _ hn]; exact hg1 e))
        simp only [Instr.loadAt, Instr.sureAddr, Sem.run_bind, Sem.run_pure, Result.andThen_ok]
        refine run_loadVar_cells hty w _ _ (len_sub _ _ _ hcs) (fun j v hj => ?_)
        rw [cell_at hh]
        rw [List.getElem?_take] at hj
        split at hj
        · rw [List.getElem?_drop] at hj; exact hj
        · cases hj
    | cptr cs =>
      simp only [Res.sem] at hs
      obtain ⟨hn, hK⟩ := hs
      cases hx with
      | cptr a _ f hsp hc h1 hr =>
        have hl : ((List.range n).map f).length = n := by simp
        have hget : ∀ j, j < n → ((List.range n).map f).toArray.getD j undef = f j := fun j hj => by rw [toArray_getD]; simp [List.getD, hj]
        have hct : ∀ j, j < n → (cs.take n).getD j .nilI = cs.getD j .nilI := fun j hj => by simp only [List.getD, List.getElem?_take, if_pos hj]
        have htl : (cs.take n).length = n := by simp; omega
        refine ok_stay h hK (u := mkVal g ((List.range n).map f).toArray) ?_ (.d _ _ (mkD_rep (by simp; omega) (fun j hj => ?_) (fun j hj => ?_) (fun e => by rw [htl]; exact hg1 e)))
        · simp only [Instr.loadAt, Instr.sureAddr, Sem.run_bind, Sem.run_pure, Result.andThen_ok]
          refine run_loadVar_cells hty w _ _ hl (fun j v hj => ?_)
          have hj' : j < n := by have := (List.getElem?_eq_some_iff.1 hj).1; simpa using this
          rw [(hc j (by omega)).1]
          simpa [hj'] using hj
        · rw [htl] at hj
          rw [hget j hj]; exact h1 j (by omega)
        · rw [htl] at hj
          rw [hget j hj, hct j hj]; exact hr j (by omega)
    | eptr id m i off =>
      cases hA : st.r[id]? with
      | none => simp [hA, Res.sem] at hs
      | some A =>
        simp only [hA] at hs
        by_cases hsz : A.sz = 0
        · rw [if_pos hsz] at hs
          split at hs
          case isFalse => exact hs.elim
          rename_i hgn
          obtain ⟨rfl, rfl⟩ := hgn
          have hw : A.w = 1 := if_pos hsz
          cases hx with
          | eptr _ _ _ _ _ h1 hv =>
          obtain ⟨A', hA', _, hv⟩ := hv
          rw [hA] at hA'
          injection hA' with hA'
          subst hA'
          have main : ∀ d : D, A.es.getD i [] = [d] → m = A.es.length → i < A.es.length → off = 0 → ∀ y : AV, (∀ u, RepC w M st.r A u d → RepA w M st.r u y) → K y st → OpOk P w0 F M st.t st.r w (Instr.loadAt t u) K := by
            intro d hd hm hi h0 y hy hK
            subst h0
            obtain ⟨g', hg', rfl⟩ := hv hm
            obtain ⟨hz, he, xs, ho, hx1, hxr⟩ := h.row id A hA
            have hxl : xs.length = A.es.length * A.w := ho.1
            rw [hw, Nat.mul_one] at hxl
            have hr := hxr i 0 hi (by omega)
            rw [hw, Nat.mul_one, Nat.add_zero, hd] at hr
            have hg1x : xs[i]? = some (xs.getD i undef) := by simp [List.getD, show i < xs.length by omega]
            refine ok_stay h hK (u := mkVal false ([xs.getD i undef] : List Value).toArray) ?_ (hy _ hr)
            simp only [Instr.loadAt, Instr.sureAddr, Sem.run_bind, Sem.run_pure, Result.andThen_ok]
            refine run_loadVar_cells hty w _ _ rfl (fun j v hj => ?_)
            cases j with
            | succ j => simp at hj
            | zero =>
              simp only [List.getElem?_cons_zero, Option.some.injEq] at hj
              subst hj
              have := ho.cells hg' i _ hg1x
              rw [Addr.add_mid, hw]
              simpa using this
          split at hs
          · rename_i id' n' hd
            split at hs
            · rename_i bs hbs
              obtain ⟨⟨⟨h2, h3, h4⟩, h5⟩, hK⟩ := hs
              obtain ⟨B, hB, hB0, hBs, rfl⟩ := refD_spec hbs
              refine main _ hd h2 h3 h4 _ (fun u hu => ?_) hK
              rcases hu with hu | ⟨_, id2, n2, e, hu⟩
              · cases hu
              · injection e with e1 e2
                subst e1 e2
                cases hu with
                | arr _ _ _ h6 h7 =>
                  obtain ⟨B2, hB2, _, h7⟩ := h7
                  rw [hB] at hB2
                  injection hB2 with hB2
                  subst hB2
                  rw [h7 h5]
                  exact .d _ _ (h.rowData _ B hB hBs hB0)
            obtain ⟨⟨h2, h3, h4⟩, hK⟩ := hs
            refine main _ hd h2 h3 h4 _ (fun u hu => ?_) hK
            rcases hu with hu | ⟨_, id2, n2, e, hu⟩
            · cases hu
            · injection e with e1 e2
              subst e1 e2
              exact hu
          · rename_i x hnr hd
            obtain ⟨⟨h2, h3, h4⟩, hK⟩ := hs
            refine main _ hd h2 h3 h4 _ (fun u hu => ?_) hK
            rcases hu with hu | ⟨_, id2, n2, e, hu⟩
            · exact .d _ _ hu
            · exact absurd e (hnr id2 n2)
          · exact hs.elim
        rw [if_neg hsz] at hs
        simp only [Res.sem] at hs
        obtain ⟨⟨hm, hi, hoff⟩, hK⟩ := hs
        have hw := Arr.w_of hsz
        cases hx with
        | eptr _ _ _ _ _ h1 hv =>
          obtain ⟨A', hA', _, hv⟩ := hv
          rw [hA] at hA'
          injection hA' with hA'
          subst hA'
          simp only [hw] at hv
          obtain ⟨g', hg', rfl⟩ := hv hm
          obtain ⟨hz, he, xs, ho, hx1, hxr⟩ := h.row id A hA
          rw [hw] at he ho hxr
          have hel : (A.es.getD i []).length = A.sz := by
            have : A.es.getD i [] = A.es[i] := by simp [List.getD, hi]
            rw [this]; exact he _ (List.getElem_mem hi)
          have hxl : xs.length = A.es.length * A.sz := ho.1
          have hend : i * A.sz + A.sz ≤ xs.length := by
            rw [hxl]
            calc i * A.sz + A.sz = (i + 1) * A.sz := by rw [Nat.add_mul, Nat.one_mul]
              _ ≤ A.es.length * A.sz := Nat.mul_le_mul_right _ hi
          have hl : ((xs.drop (i * A.sz + off)).take n).length = n := len_sub _ _ _ (by omega)
          have hdl : (((A.es.getD i []).drop off).take n).length = n := len_sub _ _ _ (by omega)
          refine ok_stay h hK (u := mkVal g ((xs.drop (i * A.sz + off)).take n).toArray) ?_ (.d _ _ (mkD_rep (by rw [List.size_toArray, hl, hdl]) (fun j hj => ?_) (fun j hj => ?_) (fun e => by rw [hdl]; exact hg1 e)))
          · simp only [Instr.loadAt, Instr.sureAddr, Sem.run_bind, Sem.run_pure, Result.andThen_ok]
            refine run_loadVar_cells hty w _ _ hl (fun j v hj => ?_)
            rw [List.getElem?_take] at hj
            split at hj
            · rw [List.getElem?_drop] at hj
              rw [Addr.add_mid]
              have := ho.cells hg' _ _ hj
              rw [Nat.add_assoc, Nat.add_assoc]
              rw [Nat.add_assoc] at this
              exact this
            · cases hj
          · rw [hdl] at hj
            rw [toArray_getD, getD_sub _ _ _ _ _ hj]
            have hlt : i * A.sz + off + j < xs.length := by omega
            have : xs.getD (i * A.sz + off + j) undef = xs[i * A.sz + off + j] := by simp [List.getD, hlt]
            rw [this]
            exact hx1 _ (List.getElem_mem hlt)
          · rw [hdl] at hj
            rw [toArray_getD, getD_sub _ _ _ _ _ hj, getD_sub _ _ _ _ _ hj, Nat.add_assoc]
            exact (hxr i (off + j) hi (by omega)).data hsz
    | _ => simp [Res.sem] at hs

theorem fo_spec {t : TypeId} {f o ft : Nat} (h : fo? P t f = some (o, ft)) : ∃ fs fd i, P.underlying t = some (.struct fs) ∧ fs[f]? = some fd ∧ fd.offset = o ∧ fd.type = ft ∧ P.info? ft = some i ∧ i.size ≠ 0 := by
  unfold fo? at h
  split at h
  · rename_i fs hu
    split at h
    · rename_i x hx
      split at h
      · rename_i i hi
        split at h
        · cases h
        · rename_i hn
          simp only [Option.some.injEq, Prod.mk.injEq] at h
          obtain ⟨rfl, rfl⟩ := h
          exact ⟨fs, x, i, hu, hx, rfl, rfl, hi, hn⟩
      · cases h
    · cases h
  · cases h
theorem sl_spec {t : TypeId} {e n y : Nat} (h : sl? P t = some (e, n, y)) : ∃ i z, P.underlying t = some (.slice e) ∧ P.info? e = some i ∧ i.zero = some z ∧ z.cells.size = i.size ∧ 0 < i.size ∧ 0 < i.bytes ∧ n = i.size ∧ y = i.bytes := by
  unfold sl? at h
  split at h
  · rename_i e' hu
    split at h
    · rename_i i hi
      split at h
      · rename_i z hz
        split at h
        · rename_i hc
          simp only [Option.some.injEq, Prod.mk.injEq] at h
          obtain ⟨rfl, rfl, rfl⟩ := h
          exact ⟨i, z, hu, hi, hz, hc.1, hc.2.1, hc.2.2, rfl, rfl⟩
        · cases h
      · cases h
    · cases h
  · cases h
theorem ar_spec {t : TypeId} {m n : Nat} (h : ar? P t = some (m, n)) : ∃ e i, P.underlying t = some (.array m e) ∧ P.info? e = some i ∧ n = i.size := by
  unfold ar? at h
  split at h
  · rename_i m' e hu
    simp only [Option.map_eq_some_iff] at h
    obtain ⟨i, hi, he⟩ := h
    simp only [Prod.mk.injEq] at he
    obtain ⟨rfl, rfl⟩ := he
    exact ⟨e, i, hu, hi, rfl⟩
  · cases h

theorem add_lit' (a : Addr) (hs : a.spot = none) (n m : Nat) : (a.add n).add m = a.add (n + m) := by
  obtain ⟨b, o, s⟩ := a
  simp at hs
  subst hs
  simp [Addr.add_lit, Nat.add_assoc]

theorem cptr_drop {r : List Arr} {a : Addr} {cs : List D} (h : RepA w M r (.pointer (some a)) (.cptr cs)) (o : Nat) (ho : o ≤ cs.length) : RepA w M r (.pointer (some (a.add o))) (.cptr (cs.drop o)) := by
  cases h with
  | cptr _ _ f hsp hc h1 hr =>
    have hsp' : (a.add o).spot = none := by unfold Addr.add; split <;> simp [hsp]
    refine .cptr _ _ (fun j => f (o + j)) hsp' (fun j hj => ?_) (fun j hj => ?_) (fun j hj => ?_) <;> simp at hj
    · rw [add_lit' a hsp]; exact hc _ (by omega)
    · exact h1 _ (by omega)
    · have e : (cs.drop o).getD j .nilI = cs.getD (o + j) .nilI := by simp only [List.getD, List.getElem?_drop]
      rw [e]; exact hr _ (by omega)

theorem fieldAddr_sound {t : TypeId} {f : Nat} {x : AV} {u : Value} (h : Inv w0 F M st.b st.r w) (hx : RepA w M st.r u x) (hs : (fieldAddrR P t f x st).sem K) : OpOk P w0 F M st.t st.r w (Instr.fieldAt t u f) K := by
  unfold fieldAddrR at hs
  cases hf : fo? P t f with
  | none => simp [hf, Res.sem] at hs
  | some p =>
    obtain ⟨o, ft⟩ := p
    rw [hf] at hs
    obtain ⟨fs, fd, i, hu, hfd, rfl, rfl, hi, hz⟩ := fo_spec hf
    have hrun : ∀ a : Addr, (Instr.fieldAt t (.pointer (some a)) f).run P w = .ok (.pointer (some (a.add fd.offset))) w := fun a => by
      simp [Instr.fieldAt, Instr.sureAddr, run_underlying hu, hfd, fieldPlace, sizeOf, typeInfo, hi, hz]
    cases x with
    | ptr id off =>
      simp only [Res.sem, true_and] at hs
      cases hx with
      | ptr _ _ hid => exact ok_stay h hs (by rw [hrun, Addr.add_lit]) (.ptr id (off + fd.offset) hid)
    | cptr cs =>
      simp only [Res.sem] at hs
      cases hx with
      | cptr a _ f' hsp hc h1 hr => exact ok_stay h hs.2 (hrun a) (cptr_drop (.cptr a cs f' hsp hc h1 hr) _ hs.1)
    | eptr id m k off =>
      cases hA : st.r[id]? with
      | none => simp [hA, Res.sem] at hs
      | some A =>
        simp only [hA, Res.sem] at hs
        cases hx with
        | eptr _ _ _ _ _ h1 hv =>
          obtain ⟨A', hA', hn, hv⟩ := hv
          rw [hA] at hA'
          injection hA' with hA'
          subst hA'
          obtain ⟨g, hg, rfl⟩ := hv hs.1
          exact ok_stay h hs.2 (by rw [hrun, Addr.add_lit]) (.eptr _ _ _ _ _ rfl ⟨A, hA, hn, fun _ => ⟨g, hg, by simp only [Nat.add_assoc]⟩⟩)
    | _ => simp [Res.sem] at hs

theorem indexAddr_sound {t : TypeId} {x i : AV} {u ui : Value} (h : Inv w0 F M st.b st.r w) (hx : RepA w M st.r u x) (hi : RepA w M st.r ui i) (hs : (indexAddrR P t x i st).sem K) : OpOk P w0 F M st.t st.r w (Instr.indexAt t u ui) K := by
  have hint : ∀ k n, i = .d (.int k n) → ui = .int k n := fun k n e => by
    subst e
    have := hi.d_inv
    cases this
    rfl
  unfold indexAddrR at hs
  split at hs
  · -- data
    rename_i es k kk
    have e := hint _ _ rfl
    subst e
    cases hsl : sl? P t with
    | none => simp [hsl, Res.sem] at hs
    | some p =>
      obtain ⟨e, n, y⟩ := p
      obtain ⟨inf, z, hu, hin, hz, hzs, hp, _, rfl, _⟩ := sl_spec hsl
      simp only [hsl, Res.sem] at hs
      obtain ⟨⟨h0, h1⟩, hK⟩ := hs
      have hx' := hx.d_inv
      cases hx' with
      | list A m c sz es f hn hc hzz ha h1' hr =>
        have hlt : kk.toNat < es.length := by omega
        have hget : es[kk.toNat]? = some es[kk.toNat] := List.getElem?_eq_getElem hlt
        obtain ⟨hlen, hK'⟩ := hK _ hget
        have hgd : es.getD kk.toNat [] = es[kk.toNat] := by simp [List.getD, hlt]
        have hsz : sz = inf.size := by rw [← hzz kk.toNat (by omega), hgd, hlen]
        obtain ⟨a, rfl, hsp, hcell⟩ := ha (by omega)
        refine ok_stay h hK' (u := .pointer (some (a.add (kk.toNat * inf.size)))) ?_ (.cptr _ _ (fun j => f kk.toNat j) (by unfold Addr.add; split <;> simp [hsp]) (fun j hj => ?_) (fun j hj => ?_) (fun j hj => ?_))
        · have : (0 ≤ kk ∧ kk < (m : Int)) := ⟨h0, by omega⟩
          simp [Instr.indexAt, asIntOf, run_underlying hu, sizeOf, typeInfo, hin, this]
        · rw [add_lit' a hsp, ← hsz]
          exact hcell _ j (by omega) (by rw [hsz]; omega)
        · exact h1' _ j (by omega) (by rw [hsz]; omega)
        · have := hr kk.toNat j (by omega) (by rw [hsz]; omega)
          rw [hgd] at this
          exact this
  · rename_i id m k kk
    have e := hint _ _ rfl
    subst e
    split at hs
    · rename_i e n y A hsl hA
      obtain ⟨inf, z, hu, hin, hz, hzs, hp, _, rfl, _⟩ := sl_spec hsl
      have hs' : (m = A.es.length ∧ 0 ≤ kk ∧ kk < A.es.length ∧ inf.size = A.w) ∧ K (.eptr id m kk.toNat 0) st := by
        unfold Arr.w
        split at hs
        · rename_i h0
          rw [if_pos h0]
          exact hs
        · rename_i h0
          rw [if_neg h0]
          exact hs
      obtain ⟨⟨hm, h0, h1, hn⟩, hK⟩ := hs'
      cases hx with
      | arr _ _ _ h1' hv =>
        obtain ⟨A', hA', hnn, hv⟩ := hv
        rw [hA] at hA'
        injection hA' with hA'
        subst hA'
        have e := hv hm
        obtain ⟨hz, he, xs, ho, _⟩ := h.row id A hA
        rcases ho.2 with ⟨e1, e2⟩ | ⟨g, cap, cur, o, e1, _⟩
        · omega
        · have e3 : u = .slice (some ⟨g, o, none⟩) A.es.length cap := by rw [e, e1]
          subst e3
          refine ok_stay h hK (u := .pointer (some ⟨g, o + kk.toNat * A.w, none⟩)) ?_ (.eptr _ _ _ _ _ rfl ⟨A, hA, hnn, fun _ => ⟨g, by rw [e1]; rfl, by rw [Nat.add_zero, e1]; rfl⟩⟩)
          have : (0 ≤ kk ∧ kk < (A.es.length : Int)) := ⟨h0, h1⟩
          simp [Instr.indexAt, asIntOf, run_underlying hu, sizeOf, typeInfo, hin, this, Addr.add_mid, ← hn]
    · simp [Res.sem] at hs
  · rename_i id off k kk
    have e := hint _ _ rfl
    subst e
    split at hs
    · rename_i len n har
      obtain ⟨e, inf, hu, hin, rfl⟩ := ar_spec har
      simp only [Res.sem] at hs
      obtain ⟨⟨h0, h1⟩, hK⟩ := hs
      cases hx with
      | ptr _ _ hid =>
        refine ok_stay h hK (u := .pointer (some ⟨M.blk id, off + kk.toNat * inf.size, none⟩)) ?_ (.ptr _ _ hid)
        have : (0 ≤ kk ∧ kk < (len : Int)) := ⟨h0, h1⟩
        simp [Instr.indexAt, asIntOf, Instr.sureAddr, run_underlying hu, sizeOf, typeInfo, hin, this, Addr.add_lit]
    · simp [Res.sem] at hs
  · rename_i cs k kk
    have e := hint _ _ rfl
    subst e
    split at hs
    · rename_i len n har
      obtain ⟨e, inf, hu, hin, rfl⟩ := ar_spec har
      simp only [Res.sem] at hs
      obtain ⟨⟨h0, h1, h2⟩, hK⟩ := hs
      cases hx with
      | cptr a _ f' hsp hc h1' hr =>
        refine ok_stay h hK (u := .pointer (some (a.add (kk.toNat * inf.size)))) ?_ (cptr_drop (.cptr a cs f' hsp hc h1' hr) _ h2)
        have : (0 ≤ kk ∧ kk < (len : Int)) := ⟨h0, h1⟩
        simp [Instr.indexAt, asIntOf, Instr.sureAddr, run_underlying hu, sizeOf, typeInfo, hin, this]
    · simp [Res.sem] at hs
  · rename_i id m k kk
    have e := hint _ _ rfl
    subst e
    split at hs
    · rename_i e n y hsl
      obtain ⟨inf, z, hu, hin, hz, hzs, hp, _, rfl, _⟩ := sl_spec hsl
      simp only [Res.sem] at hs
      obtain ⟨⟨h0, h1⟩, hK⟩ := hs
      cases hx with
      | bsl _ _ hid hn =>
        refine ok_stay h hK (u := .pointer (some ⟨M.blk id, kk.toNat * inf.size, none⟩)) ?_ (.ptr _ _ hid)
        have : (0 ≤ kk ∧ kk < (m : Int)) := ⟨h0, h1⟩
        simp [Instr.indexAt, asIntOf, run_underlying hu, sizeOf, typeInfo, hin, this, Addr.add_lit]
    · simp [Res.sem] at hs
  · simp [Res.sem] at hs
end
end Go.PE
end

section
/- The evaluator is right, 3: data out of abstract values; stores; new boxes and rows (see PeA, PeD). -/
set_option linter.unusedVariables false
set_option linter.unusedSimpArgs false
namespace Go.PE
open Go

theorem one_cells {v : Value} (h : v.oneCell' = true) : v.cells.toList = [v] := by
  cases v <;> first | rfl | (simp [Value.oneCell'] at h)
def SharedOf (r r' : List Arr) (ids : List Nat) : Prop := ∀ id A, r[id]? = some A → ∃ A', r'[id]? = some A' ∧ A'.es = A.es ∧ (A'.sz = A.sz ∧ A'.ety = A.ety) ∧ (A.sh = true → A'.sh = true) ∧ (id ∈ ids → A'.sh = true)

theorem shared_share1 (r : List Arr) (id : Nat) : SharedOf r (share1 r id) [id] := by
  intro k A hA
  unfold share1
  cases e : r[id]? with
  | none => exact ⟨A, hA, rfl, ⟨rfl, rfl⟩, fun h => h, fun h => by simp at h; subst h; rw [e] at hA; cases hA⟩
  | some B =>
    by_cases hk : k = id
    · subst hk
      rw [e] at hA
      injection hA with hA
      subst hA
      exact ⟨_, set_at e, rfl, ⟨rfl, rfl⟩, fun _ => rfl, fun _ => rfl⟩
    · exact ⟨A, by rw [set_ne hk]; exact hA, rfl, ⟨rfl, rfl⟩, fun h => h, fun h => by simp at h; exact absurd h hk⟩
theorem shared_share : ∀ (ids : List Nat) (r : List Arr), SharedOf r (share r ids) ids
  | [], r => fun k A hA => ⟨A, hA, rfl, ⟨rfl, rfl⟩, fun h => h, fun h => by cases h⟩
  | id :: l, r => by
    intro k A hA
    obtain ⟨A1, h1, e1, z1, s1, m1⟩ := shared_share1 r id k A hA
    obtain ⟨A2, h2, e2, z2, s2, m2⟩ := shared_share l (share1 r id) k A1 h1
    refine ⟨A2, h2, e2.trans e1, ⟨z2.1.trans z1.1, z2.2.trans z1.2⟩, fun h => s2 (s1 h), fun h => ?_⟩
    rcases List.mem_cons.1 h with rfl | h
    · exact s2 (m1 (by simp))
    · exact m2 h

section
variable {P : Program} {w0 : World} {F : List Nat} {M : Mem} {b : List (List AV)} {r : List Arr} {w : World}

theorem Inv.share1 (h : Inv w0 F M b r w) (id : Nat) : Inv w0 F M b (share1 r id) w ∧ Chg w M r w M (share1 r id) := by
  unfold PE.share1
  split
  · rename_i A hA
    exact h.share id A hA
  · exact ⟨h, Chg.refl _ _ _⟩
theorem Inv.shareL : ∀ (ids : List Nat) {r : List Arr}, Inv w0 F M b r w → Inv w0 F M b (PE.share r ids) w ∧ Chg w M r w M (PE.share r ids)
  | [], _, h => ⟨h, Chg.refl _ _ _⟩
  | id :: l, _, h => by
    obtain ⟨h1, c1⟩ := h.share1 id
    obtain ⟨h2, c2⟩ := Inv.shareL l h1
    exact ⟨h2, c1.trans c2⟩

theorem lnkC_rep {A : Arr} {y : AV} {d : D} {v : Value} (h : RepA w M r v y) (hl : lnkC y = some d) (h0 : A.sz = 0) : v.oneCell' = true ∧ RepC w M r A v d := by
  unfold lnkC at hl
  split at hl
  · simp only [Option.some.injEq] at hl
    subst hl
    have h' := h
    cases h with
    | arr _ _ _ h1 _ => exact ⟨h1, .inr ⟨h0, _, _, rfl, h'⟩⟩
  · split at hl
    · rename_i h1
      simp only [Option.some.injEq] at hl
      subst hl
      exact ⟨h.d_inv.one h1, .inl h.d_inv⟩
    · cases hl
  · simp only [Option.some.injEq] at hl
    subst hl
    cases h
    exact ⟨rfl, .inl (.list none 0 0 0 [] (fun _ _ => undef) rfl ⟨Nat.le_refl _, Nat.zero_le _⟩ (fun i hi => absurd hi (by omega)) (fun h => absurd h (by omega)) (fun i _ hi => absurd hi (by omega)) (fun i _ hi => absurd hi (by omega)))⟩
  · cases hl
mutual
theorem toD_rep {r' : List Arr} (hI : Inv w0 F M b r' w) (hc : Chg w M r w M r') {ids : List Nat} (hs : SharedOf r r' ids) : ∀ (x : AV) (d : D) (v : Value), toD r x = some d → (∀ id ∈ arrIds x, id ∈ ids) → RepA w M r v x → Rep w (Okc M r') v d
  | .d x, d, v, h, _, hr => by
    simp [toD] at h
    subst h
    exact hr.d_inv.mono hc.cell
  | .full es, d, v, h, _, hr => by
    simp [toD] at h
    subst h
    cases hr with
    | full A n _ h => exact h.mono hc.cell
  | .nilS, d, v, h, _, hr => by
    simp [toD] at h
    subst h
    cases hr
    exact .list none 0 0 0 [] (fun _ _ => undef) rfl ⟨Nat.le_refl _, Nat.zero_le _⟩ (fun i hi => absurd hi (by omega)) (fun h => absurd h (by omega)) (fun i _ hi => absurd hi (by omega)) (fun i _ hi => absurd hi (by omega))
  | .arr id n, d, v, h, hm, hr => by
    simp only [toD] at h
    cases hA : r[id]? with
    | none => simp [hA] at h
    | some A =>
      rw [hA] at h
      simp only at h
      split at h
      · cases h
      rename_i hsz
      split at h
      · rename_i hn
        injection h with h
        subst h
        cases hr with
        | arr _ _ _ h1 hv =>
          obtain ⟨A', hA', _, hv⟩ := hv
          rw [hA] at hA'
          injection hA' with hA'
          subst hA'
          obtain ⟨A2, h2, e2, z2, _, m2⟩ := hs id A hA
          have := hI.rowData id A2 h2 (m2 (hm id (by simp [arrIds]))) (by rw [z2.1]; exact hsz)
          rw [e2] at this
          rw [hv hn]
          exact this
      · cases h
  | .agg cs, d, v, h, hm, hr => by
    simp only [toD, Option.map_eq_some_iff] at h
    obtain ⟨ds, h1, rfl⟩ := h
    cases hr with
    | agg vs _ hsz h1' hrr =>
      obtain ⟨hl, hrep⟩ := toDL_rep hI hc hs cs ds h1 (fun id hid => hm id (by simpa [arrIds] using hid)) (fun i => vs.getD i undef) hrr
      exact .agg vs ds (by omega) (fun i hi => h1' i (by omega)) hrep
  | .iface t x, d, v, h, hm, hr => by
    simp only [toD, Option.map_eq_some_iff] at h
    obtain ⟨d', h1, rfl⟩ := h
    cases hr with
    | iface _ v' _ hr' => exact .iface t v' d' (toD_rep hI hc hs x d' v' h1 (fun id hid => hm id (by simpa [arrIds] using hid)) hr')
  | .undef, _, _, h, _, _ | .ptr _ _, _, _, h, _, _ | .cptr _, _, _, h, _, _ | .eptr _ _ _ _, _, _, h, _, _ | .tup _, _, _, h, _, _ | .fn _ _ _, _, _, h, _, _ | .bsl _ _, _, _, h, _, _ => by simp [toD] at h
theorem toDL_rep {r' : List Arr} (hI : Inv w0 F M b r' w) (hc : Chg w M r w M r') {ids : List Nat} (hs : SharedOf r r' ids) : ∀ (xs : List AV) (ds : List D), toDL r xs = some ds → (∀ id ∈ arrIdsL xs, id ∈ ids) → ∀ (f : Nat → Value), (∀ i, i < xs.length → RepA w M r (f i) (xs.getD i .undef)) →
    ds.length = xs.length ∧ ∀ i, i < ds.length → Rep w (Okc M r') (f i) (ds.getD i .nilI)
  | [], ds, h, _, f, _ => by
    simp [toDL] at h
    subst h
    exact ⟨rfl, fun i hi => absurd hi (by simp)⟩
  | x :: l, ds, h, hm, f, hr => by
    simp only [toDL] at h
    split at h
    · rename_i d ds' h1 h2
      injection h with h
      subst h
      have hx := toD_rep hI hc hs x d (f 0) h1 (fun id hid => hm id (by simp [arrIdsL, hid])) (hr 0 (by simp))
      obtain ⟨hl, hrep⟩ := toDL_rep hI hc hs l ds' h2 (fun id hid => hm id (by simp [arrIdsL, hid])) (fun i => f (i + 1)) (fun i hi => hr (i + 1) (by simpa using hi))
      refine ⟨by simp [hl], fun i hi => ?_⟩
      cases i with
      | zero => exact hx
      | succ i => exact hrep i (by simpa using hi)
    · cases h
end

/-- Arguments turned into data: their rows are shared from now on. -/
theorem toDR_sound {args : List AV} {st : St} {f : List D → St → Res} {K : AV → St → Prop} (h : Inv w0 F M st.b st.r w) (vs : Nat → Value) (hr : ∀ i, i < args.length → RepA w M st.r (vs i) (args.getD i .undef)) (hs : (toDR args st f).sem K) :
    ∃ ds, (f ds { st with r := share st.r (arrIdsL args) }).sem K ∧ ds.length = args.length ∧ Inv w0 F M st.b (share st.r (arrIdsL args)) w ∧ Chg w M st.r w M (share st.r (arrIdsL args)) ∧
      ∀ i, i < ds.length → Rep w (Okc M (share st.r (arrIdsL args))) (vs i) (ds.getD i .nilI) := by
  unfold toDR at hs
  split at hs
  · rename_i ds hds
    obtain ⟨hI, hc⟩ := Inv.shareL (arrIdsL args) h
    obtain ⟨hl, hrep⟩ := toDL_rep hI hc (shared_share (arrIdsL args) st.r) args ds hds (fun id hid => hid) vs hr
    exact ⟨ds, hs, hl, hI, hc, hrep⟩
  · exact hs.elim
end

/-- An operation after which a state of this kind is there. -/
theorem OpOk.chg {P : Program} {w0 : World} {F : List Nat} {M : Mem} {t : List AV} {r r' : List Arr} {w : World} {s : Sem Value} {K : AV → St → Prop} (c : Chg w M r w M r') (h : OpOk P w0 F M t r' w s K) : OpOk P w0 F M t r w s K := by
  obtain ⟨v, st', M', w', u, hK, hr, hI, hc, hv, ht⟩ := h
  exact ⟨v, st', M', w', u, hK, hr, hI, c.trans hc, hv, ht⟩

section
variable {P : Program} {w0 : World} {F : List Nat} {M : Mem} {st : St} {w : World} {K : AV → St → Prop}

/-- What a store comes to. -/
def StOk (P : Program) (w0 : World) (F : List Nat) (M : Mem) (t : List AV) (r : List Arr) (w : World) (s : Sem Unit) (K : AV → St → Prop) : Prop :=
  ∃ v st' M' w', K v st' ∧ s.run P w = .ok () w' ∧ Inv w0 F M' st'.b st'.r w' ∧ Chg w M r w' M' st'.r ∧ RepA w' M' st'.r undef v ∧ st'.t = t

theorem mem_getD {cs : Array Value} {u : Value} (h : u ∈ cs.toList) : ∃ j, j < cs.size ∧ cs.getD j undef = u := by
  obtain ⟨j, hj, rfl⟩ := List.getElem_of_mem h
  have hj' : j < cs.size := by simpa using hj
  exact ⟨j, hj', by simp [Array.getD, hj']⟩
theorem CellsOk.all {r : List Arr} {cs : Array Value} {xs : List AV} (h : CellsOk w M r cs xs) : ∀ u ∈ cs.toList, u.oneCell' = true := by
  intro u hu
  obtain ⟨j, hj, rfl⟩ := mem_getD hu
  exact h.one j (by rw [← h.size]; exact hj)

theorem getD_splice {α : Type} (cs : List α) (off : Nat) (new : List α) (x : α) (j : Nat) (h : off + new.length ≤ cs.length) :
    (splice cs off new).getD j x = if j < off then cs.getD j x else if j < off + new.length then new.getD (j - off) x else cs.getD j x := by
  unfold splice
  have hl : (cs.take off).length = off := by simp; omega
  rcases Nat.lt_or_ge j off with h1 | h1
  · rw [if_pos h1, List.append_assoc, getD_append_lt _ _ _ _ (by omega)]
    simp only [List.getD, List.getElem?_take, if_pos h1]
  · rw [if_neg (by omega)]
    have e1 : (List.take off cs ++ new ++ List.drop (off + new.length) cs).getD j x = (new ++ List.drop (off + new.length) cs).getD (j - off) x := by
      rw [List.append_assoc]
      simp only [List.getD]
      rw [List.getElem?_append_right (by omega), hl]
    rw [e1]
    rcases Nat.lt_or_ge j (off + new.length) with h2 | h2
    · rw [if_pos h2, getD_append_lt _ _ _ _ (by omega)]
    · rw [if_neg (by omega)]
      simp only [List.getD]
      rw [List.getElem?_append_right (by omega), List.getElem?_drop]
      congr 2
      omega
theorem len_splice {α : Type} (cs : List α) (off : Nat) (new : List α) (h : off + new.length ≤ cs.length) : (splice cs off new).length = cs.length := by
  simp [splice]; omega

theorem CellsOk.spl {r : List Arr} {cs ns : Array Value} {xs ys : List AV} (h : CellsOk w M r cs xs) (k : CellsOk w M r ns ys) (off : Nat) (hf : off + ys.length ≤ xs.length) :
    CellsOk w M r (cs.toList.take off ++ ns.toList ++ cs.toList.drop (off + ns.toList.length)).toArray (splice xs off ys) := by
  have e : (cs.toList.take off ++ ns.toList ++ cs.toList.drop (off + ns.toList.length)) = splice cs.toList off ns.toList := rfl
  rw [e]
  have hl : ns.toList.length = ys.length := by simpa using k.size
  have hl2 : cs.toList.length = xs.length := by simpa using h.size
  have hf' : off + ns.toList.length ≤ cs.toList.length := by omega
  refine ⟨by rw [List.size_toArray, len_splice _ _ _ hf', len_splice _ _ _ hf, hl2], fun j hj => ?_, fun j hj => ?_⟩ <;> rw [len_splice _ _ _ hf] at hj <;> rw [toArray_getD, getD_splice _ _ _ _ _ hf']
  · rw [hl]
    split
    · rw [toList_getD]; exact h.one j hj
    · split
      · rw [toList_getD]; exact k.one _ (by omega)
      · rw [toList_getD]; exact h.one j hj
  · rw [getD_splice _ _ _ _ _ hf, hl]
    split
    · rw [toList_getD]; exact h.rep j hj
    · split
      · rw [toList_getD]; exact k.rep _ (by omega)
      · rw [toList_getD]; exact h.rep j hj

theorem Rep.oneL {ok : Addr → Prop} {v : Value} {d : D} (h : Rep w ok v d) (h1 : (cellsD d).all oneD = true) : v.cells.size = (cellsD d).length ∧ (∀ j, j < (cellsD d).length → (v.cells.getD j undef).oneCell' = true) ∧ ∀ j, j < (cellsD d).length → Rep w ok (v.cells.getD j undef) ((cellsD d).getD j .nilI) := by
  have single : oneD d = true → cellsD d = [d] → v.cells.size = (cellsD d).length ∧ (∀ j, j < (cellsD d).length → (v.cells.getD j undef).oneCell' = true) ∧ ∀ j, j < (cellsD d).length → Rep w ok (v.cells.getD j undef) ((cellsD d).getD j .nilI) := by
    intro h2 h3
    have hv := h.one h2
    rw [cells_one hv, h3]
    refine ⟨rfl, fun j hj => ?_, fun j hj => ?_⟩ <;>
      (have e : j = 0 := by
        simp at hj
        exact hj
       subst e)
    · exact hv
    · exact h
  cases d with
  | agg cs =>
    cases h with
    | agg vs _ hs h1' hr => exact ⟨hs, h1', hr⟩
  | _ => exact single (by simpa [cellsD] using h1) rfl

theorem store_sound {t : TypeId} {x y : AV} {u v : Value} (h : Inv w0 F M st.b st.r w) (hx : RepA w M st.r u x) (hy : RepA w M st.r v y) (hs : (storeR P t x y st).sem K) : StOk P w0 F M st.t st.r w (Instr.storeAt t u v) K := by
  unfold storeR at hs
  cases hty : ty? P t with
  | none => simp [hty, Res.sem] at hs
  | some gn =>
    obtain ⟨g, n⟩ := gn
    rw [hty] at hs
    cases x with
    | ptr id off =>
      cases hb : st.b[id]? with
      | none => simp [hb, Res.sem] at hs
      | some cells =>
        simp only [hb, Res.sem] at hs
        obtain ⟨⟨hl, hn, h1⟩, hK⟩ := hs
        obtain ⟨cs, ty, hh, hc⟩ := box_cells h hb
        cases hx
        have hv := cells_rep hy h1
        have hnew := hc.spl hv off (by omega)
        obtain ⟨hI, hch⟩ := h.setBox id cells hb _ _ hnew.size hnew.one hnew.rep
        refine ⟨.undef, _, M, _, hK, ?_, hI, hch, .undef _, rfl⟩
        simp only [Instr.storeAt, Instr.sureAddr, Sem.run_bind, Sem.run_pure, Result.andThen_ok]
        exact run_storeVar_at hty w _ off v cs ty hh (by rw [hv.size, hl]) (by rw [hc.size]; exact hn) hv.all
    | eptr id m i off =>
      simp only at hs
      by_cases hlk : lkd st.r id = true
      · rw [if_pos hlk] at hs
        split at hs
        case h_2 => exact hs.elim
        rename_i d A hd hA
        obtain ⟨⟨hm, hi, h0, hn1, hsh⟩, hK⟩ := hs
        subst h0 hn1
        have hsz : A.sz = 0 := by
          unfold lkd at hlk
          rw [hA] at hlk
          simpa using hlk
        have hw : A.w = 1 := if_pos hsz
        cases hx with
        | eptr _ _ _ _ _ h1' hv =>
          obtain ⟨A', hA', _, hv⟩ := hv
          rw [hA] at hA'
          injection hA' with hA'
          subst hA'
          obtain ⟨g', hg', rfl⟩ := hv hm
          obtain ⟨hz, he, xs, ho, hx1, hxr⟩ := h.row id A hA
          have hxl : xs.length = A.es.length := by rw [ho.1, hw, Nat.mul_one]
          rcases ho.2 with ⟨e1, e2⟩ | ⟨g2, cap, cur, o, e1, hh, hnc, hcm, hcs, htk⟩
          · rw [e1] at hg'; simp [Value.ownBlock] at hg'
          · rw [e1] at hg'
            simp [Value.ownBlock] at hg'
            subst hg'
            obtain ⟨hvone, hvrep⟩ := lnkC_rep hy hd hsz
            have hvc : v.cells.toList = [v] := one_cells hvone
            have hcl : o + cap ≤ cur.toList.length := by rw [hw, Nat.mul_one] at hcs; rw [Array.length_toList]; exact hcs
            have hTl : cap ≤ (cur.toList.drop o).length := by rw [List.length_drop]; omega
            have htk' : (cur.toList.drop o).take A.es.length = xs := by rw [← htk, hw, Nat.mul_one]
            have hes : ∀ e ∈ A.es.set i [d], e.length = A.w := by
              intro e hm
              rcases List.mem_or_eq_of_mem_set hm with h2 | h2
              · exact he e h2
              · rw [h2, hw]; rfl
            have hxs : cur.toList.take o ++ xs.set i v ++ cur.toList.drop (o + A.es.length * A.w) = cur.toList.take (o + (i * A.w + 0)) ++ v.cells.toList ++ cur.toList.drop (o + (i * A.w + 0) + v.cells.toList.length) := by
              refine splice_at _ _ _ _ _ _ _ ?_
              generalize cur.toList.drop o = T at hTl htk'
              rw [hvc, hw, Nat.mul_one, Nat.mul_one, Nat.add_zero, ← htk', List.set_eq_take_append_cons_drop, if_pos (by rw [List.length_take]; omega), List.take_take, Nat.min_eq_left (by omega), List.append_assoc, List.append_assoc]
              congr 1
              simp only [List.length_cons, List.length_nil, List.cons_append, List.nil_append, List.cons.injEq, true_and]
              have := List.take_append_drop (A.es.length - (i + 1)) (T.drop (i + 1))
              rw [List.drop_drop, show i + 1 + (A.es.length - (i + 1)) = A.es.length by omega] at this
              rw [List.drop_take]
              exact this
            obtain ⟨hI', hch'⟩ := h.setRowElems id A hA hsh g2 cap cur o e1 hh hcs hnc hcm (xs.set i v) (A.es.set i [d]) (by simp) hes (by rw [List.length_set, hxl, hw, Nat.mul_one])
              (fun x hx => by
                rcases List.mem_or_eq_of_mem_set hx with h2 | h2
                · exact hx1 x h2
                · rw [h2]; exact hvone)
              (fun k j hk hj => by
                rw [hw] at hj
                obtain rfl : j = 0 := by omega
                rw [hw, Nat.mul_one, Nat.add_zero]
                simp only [List.length_set] at hk
                by_cases hki : k = i
                · subst hki
                  have e3 : (A.es.set k [d]).getD k [] = [d] := by simp [List.getD, hk]
                  have e4 : (xs.set k v).getD k undef = v := by simp [List.getD, show k < xs.length by omega]
                  rw [e3, e4]
                  exact hvrep
                · have e3 : (A.es.set i [d]).getD k [] = A.es.getD k [] := by simp only [List.getD, List.getElem?_set, if_neg (Ne.symm hki)]
                  have e4 : (xs.set i v).getD k undef = xs.getD k undef := by simp only [List.getD, List.getElem?_set, if_neg (Ne.symm hki)]
                  rw [e3, e4]
                  have := hxr k 0 hk (by omega)
                  rwa [hw, Nat.mul_one, Nat.add_zero] at this)
            refine ⟨.undef, _, M, _, hK, ?_, hI', hch', .undef _, rfl⟩
            have hoff : offV (M.row id) = o := by rw [e1]; rfl
            rw [hxs, hoff]
            simp only [Instr.storeAt, Instr.sureAddr, Sem.run_bind, Sem.run_pure, Result.andThen_ok]
            have hvs : v.cells.size = 1 := by rw [← Array.length_toList, hvc]; rfl
            exact run_storeVar_at hty w _ _ v cur A.ety hh hvs (by rw [hw] at hcs ⊢; omega) (fun u hu => by
              rw [hvc] at hu
              simp only [List.mem_singleton] at hu
              rw [hu]
              exact hvone)
      rw [if_neg hlk] at hs
      have hr1 : ∀ k, k < [y].length → RepA w M st.r v ([y].getD k .undef) := fun k hk => by
        have e : k = 0 := by simpa using hk
        subst e
        exact hy
      obtain ⟨ds, hs, hl, hI, hc, hrep⟩ := toDR_sound h (fun _ => v) hr1 hs
      cases ds with
      | nil => simp at hl
      | cons d ds =>
        cases ds with
        | cons _ _ => simp at hl
        | nil =>
          have hd : Rep w (Okc M (share st.r (arrIdsL [y]))) v d := hrep 0 (by simp)
          simp only at hs
          cases hA : (share st.r (arrIdsL [y]))[id]? with
          | none => simp [hA, Res.sem] at hs
          | some A =>
            simp only [hA] at hs
            by_cases hsz : A.sz = 0
            · rw [if_pos hsz] at hs
              exact hs.elim
            rw [if_neg hsz] at hs
            simp only [Res.sem] at hs
            obtain ⟨⟨hm, hi, hdl, hoff, hsh, h1⟩, hK⟩ := hs
            have hw := Arr.w_of hsz
            rw [← hw] at hoff
            have hx' := hx.mono hc
            cases hx' with
            | eptr _ _ _ _ _ h1' hv =>
              obtain ⟨A', hA', _, hv⟩ := hv
              rw [hA] at hA'
              injection hA' with hA'
              subst hA'
              obtain ⟨g', hg', rfl⟩ := hv hm
              obtain ⟨hz, he, xs, ho, hx1, hxr⟩ := hI.row id A hA
              have hxl : xs.length = A.es.length * A.w := ho.1
              rcases ho.2 with ⟨e1, e2⟩ | ⟨g2, cap, cur, o, e1, hh, hnc, hcm, hcs, htk⟩
              · rw [e1] at hg'; simp [Value.ownBlock] at hg'
              · rw [e1] at hg'
                simp [Value.ownBlock] at hg'
                subst hg'
                obtain ⟨hvs, hv1, hvr⟩ := hd.oneL h1
                have hvl : v.cells.toList.length = n := by simp [hvs, hdl]
                have hend : i * A.w + A.w ≤ xs.length := by
                  rw [hxl]
                  calc i * A.w + A.w = (i + 1) * A.w := by rw [Nat.add_mul, Nat.one_mul]
                    _ ≤ A.es.length * A.w := Nat.mul_le_mul_right _ hi
                have hel : (A.es.getD i []).length = A.w := by
                  have : A.es.getD i [] = A.es[i] := by simp [List.getD, hi]
                  rw [this]; exact he _ (List.getElem_mem hi)
                have hcl : o + cap * A.w ≤ cur.toList.length := by simpa using hcs
                have hncm := Nat.mul_le_mul_right A.w hnc
                -- the cells behind the store
                have hTl : cap * A.w ≤ (cur.toList.drop o).length := by rw [List.length_drop]; omega
                have hxs : cur.toList.take o ++ splice xs (i * A.w + off) v.cells.toList ++ cur.toList.drop (o + A.es.length * A.w) = cur.toList.take (o + (i * A.w + off)) ++ v.cells.toList ++ cur.toList.drop (o + (i * A.w + off) + v.cells.toList.length) := by
                  refine splice_at _ _ _ _ _ _ _ ?_
                  generalize cur.toList.drop o = T at hTl htk
                  rw [← htk]
                  unfold splice
                  rw [List.take_take, List.drop_take, Nat.min_eq_left (by omega), List.append_assoc, List.append_assoc, List.append_assoc]
                  congr 2
                  have := List.take_append_drop (A.es.length * A.w - (i * A.w + off + v.cells.toList.length)) (T.drop (i * A.w + off + v.cells.toList.length))
                  rw [List.drop_drop] at this
                  rw [show i * A.w + off + v.cells.toList.length + (A.es.length * A.w - (i * A.w + off + v.cells.toList.length)) = A.es.length * A.w by omega] at this
                  exact this
                have hspl : (splice xs (i * A.w + off) v.cells.toList).length = A.es.length * A.w := by rw [len_splice _ _ _ (by omega), hxl]
                have hsetl : ∀ e ∈ A.es.set i (splice (A.es.getD i []) off (cellsD d)), e.length = A.w := by
                  intro e hm
                  rcases List.mem_or_eq_of_mem_set hm with h2 | h2
                  · exact he e h2
                  · rw [h2, len_splice _ _ _ (by omega), hel]
                obtain ⟨hI', hch'⟩ := hI.setRowElems id A hA hsh g2 cap cur o e1 hh hcs hnc hcm (splice xs (i * A.w + off) v.cells.toList) (A.es.set i (splice (A.es.getD i []) off (cellsD d))) (by simp) hsetl hspl
                  (fun x hx => by
                    unfold splice at hx
                    rcases List.mem_append.1 hx with h2 | h2
                    · rcases List.mem_append.1 h2 with h3 | h3
                      · exact hx1 x (List.mem_of_mem_take h3)
                      · obtain ⟨j, hj, rfl⟩ := mem_getD h3
                        exact hv1 j (by rw [← hvs]; exact hj)
                    · exact hx1 x (List.mem_of_mem_drop h2))
                  (fun k j hk hj => by
                    simp at hk
                    have hkj : k * A.w + j < xs.length := by
                      rw [hxl]
                      calc k * A.w + j < k * A.w + A.w := Nat.add_lt_add_left hj _
                        _ = (k + 1) * A.w := by rw [Nat.add_mul, Nat.one_mul]
                        _ ≤ A.es.length * A.w := Nat.mul_le_mul_right _ hk
                    rw [getD_splice _ _ _ _ _ (by omega)]
                    by_cases hki : k = i
                    · subst hki
                      have e3 : (A.es.set k (splice (A.es.getD k []) off (cellsD d))).getD k [] = splice (A.es.getD k []) off (cellsD d) := by simp [List.getD, hk]
                      rw [e3, getD_splice _ _ _ _ _ (by omega)]
                      by_cases hj1 : j < off
                      · rw [if_pos (by omega), if_pos hj1]; exact hxr k j hk hj
                      · rw [if_neg (by omega), if_neg hj1]
                        by_cases hj2 : j < off + (cellsD d).length
                        · rw [if_pos (by omega), if_pos hj2, show k * A.w + j - (k * A.w + off) = j - off by omega, toList_getD]
                          exact .inl (hvr _ (by omega))
                        · rw [if_neg (by omega), if_neg hj2]; exact hxr k j hk hj
                    · have e3 : (A.es.set i (splice (A.es.getD i []) off (cellsD d))).getD k [] = A.es.getD k [] := by
                        simp only [List.getD, List.getElem?_set, if_neg (Ne.symm hki)]
                      rw [e3]
                      have hout : k * A.w + j < i * A.w + off ∨ i * A.w + off + v.cells.toList.length ≤ k * A.w + j := by
                        rcases Nat.lt_or_gt_of_ne hki with h2 | h2
                        · have := Nat.mul_le_mul_right A.w (show k + 1 ≤ i from h2)
                          rw [Nat.add_mul, Nat.one_mul] at this
                          left; omega
                        · have := Nat.mul_le_mul_right A.w (show i + 1 ≤ k from h2)
                          rw [Nat.add_mul, Nat.one_mul] at this
                          right; omega
                      rcases hout with h2 | h2
                      · rw [if_pos h2]; exact hxr k j hk hj
                      · rw [if_neg (by omega), if_neg (by omega)]; exact hxr k j hk hj)
                refine ⟨.undef, _, M, _, hK, ?_, hI', hc.trans hch', .undef _, rfl⟩
                have hoffv : offV (M.row id) = o := by rw [e1]; rfl
                rw [hxs, hoffv]
                simp only [Instr.storeAt, Instr.sureAddr, Sem.run_bind, Sem.run_pure, Result.andThen_ok]
                exact run_storeVar_at hty w _ _ v cur A.ety hh (by rw [hvs, hdl]) (by omega) (fun u hu => by
                  obtain ⟨j, hj, rfl⟩ := mem_getD hu
                  exact hv1 j (by rw [← hvs]; exact hj))
    | _ => simp [Res.sem] at hs
end
end Go.PE
end

section
/- The evaluator is right, 4: making (see PeA, PeD). -/
set_option linter.unusedVariables false
set_option linter.unusedSimpArgs false
namespace Go.PE
open Go

section
variable {P : Program} {w0 : World} {F : List Nat} {M : Mem} {st : St} {w : World} {K : AV → St → Prop}

theorem newBox_ok (h : Inv w0 F M st.b st.r w) {s : Sem Value} {cs : Array Value} {ty : TypeId} {cells : List AV} (hc : CellsOk w M st.r cs cells)
    (hr : s.run P w = .ok (.pointer (some ⟨w.heap.size, 0, none⟩)) (w.alloc (.cells cs ty))) (hK : K (.ptr st.b.length 0) (st.new cells)) : OpOk P w0 F M st.t st.r w s K := by
  obtain ⟨hI, hch, hb⟩ := h.newBox cs ty cells hc.size hc.one hc.rep
  refine ⟨_, _, _, _, _, hK, hr, hI, hch, ?_, rfl⟩
  have e : RepA (w.alloc (.cells cs ty)) ⟨M.bb ++ [w.heap.size], M.av, M.no⟩ st.r (.pointer (some ⟨Mem.blk ⟨M.bb ++ [w.heap.size], M.av, M.no⟩ st.b.length, 0, none⟩)) (.ptr st.b.length 0) :=
    .ptr _ 0 (by have := h.lb; simp; omega)
  rw [hb] at e
  exact e

theorem zero_spec {t : TypeId} {z : List AV} (h : zero? P t = some z) : ∃ i zv, P.info? t = some i ∧ i.zero = some zv ∧ z = zv.cells.toList.map constA := by
  unfold zero? at h
  split at h
  · rename_i i hi
    simp only [Option.map_eq_some_iff] at h
    obtain ⟨zv, hz, rfl⟩ := h
    exact ⟨i, zv, hi, hz, rfl⟩
  · cases h
theorem zero_cells {zv : Value} {r : List Arr} (h : (zv.cells.toList.map constA).all oneA = true) : CellsOk w M r zv.cells (zv.cells.toList.map constA) := by
  refine .mk' (by simp) h (fun j hj => ?_)
  have hj' : j < zv.cells.size := by simpa using hj
  have e : (zv.cells.toList.map constA).getD j .undef = constA (zv.cells.getD j undef) := by simp [List.getD, Array.getD, hj']
  rw [e]
  exact constA_rep _

theorem alloc_sound {t : TypeId} (h : Inv w0 F M st.b st.r w) (hs : (allocR P t st).sem K) : OpOk P w0 F M st.t st.r w (Instr.alloc t true (.tuple #[])) K := by
  unfold allocR at hs
  split at hs
  · rename_i z hz
    obtain ⟨i, zv, hi, hzv, rfl⟩ := zero_spec hz
    simp only [Res.sem] at hs
    exact newBox_ok h (zero_cells hs.1) (ty := t) (by simp [Instr.alloc, zeroValue, typeInfo, hi, hzv, newVar, newRow]) hs.2
  · exact hs.elim
theorem box_sound {t : TypeId} {x : AV} {u : Value} (h : Inv w0 F M st.b st.r w) (hx : RepA w M st.r u x) (hs : (boxR x st).sem K) : OpOk P w0 F M st.t st.r w (Instr.box t u) K := by
  simp only [boxR, Res.sem] at hs
  exact newBox_ok h (cells_rep hx hs.1) (ty := t) (by simp [Instr.box, newVar, newRow]) hs.2

theorem fill_step (o : Nat) (ns cs : Array Value) (h : o + ns.size ≤ cs.size) :
    ns.zipIdx.foldl (fun cs (x : Value × Nat) => cs.setIfInBounds (o + x.2) x.1) cs = (cs.toList.take o ++ ns.toList ++ cs.toList.drop (o + ns.toList.length)).toArray := by
  rw [← Array.foldl_toList, Array.toList_zipIdx]
  obtain ⟨h1, h2⟩ := Great.foldl_set o ns.toList 0 cs
  apply Array.ext_getElem?
  intro k
  have e := h2 k
  simp only [Nat.add_zero] at e
  have hL : (cs.toList.take o ++ ns.toList ++ cs.toList.drop (o + ns.toList.length)).toArray[k]? = (cs.toList.take o ++ ns.toList ++ cs.toList.drop (o + ns.toList.length))[k]? := List.getElem?_toArray
  rw [e, hL]
  have hl : (cs.toList.take o).length = o := by simp; omega
  split
  · rename_i hk
    rw [List.append_assoc, List.getElem?_append_right (by omega), hl, List.getElem?_append_left (by omega)]
  · rename_i hk
    rcases Nat.lt_or_ge k o with h3 | h3
    · rw [List.append_assoc, List.getElem?_append_left (by omega), List.getElem?_take, if_pos h3]; simp
    · rw [List.append_assoc, List.getElem?_append_right (by omega), hl]
      rcases Nat.lt_or_ge k (o + ns.toList.length) with h4 | h4
      · have h5 : cs.size ≤ k := by omega
        simp at h4
        omega
      · rw [List.getElem?_append_right (by omega), List.getElem?_drop]
        rw [show o + ns.toList.length + (k - o - ns.toList.length) = k by omega]
        simp

theorem fill_rep {r : List Arr} {pl : Nat → Option (Nat × Nat)} {place : Nat → Option (Nat × Nat)} (hp : ∀ f x, pl f = some x → place f = some x) {a : Act} {t : List AV} {st : St} (ht : Rept w M r a.tmps st.t) :
    ∀ (l : List (Nat × Operand)) (cells : Array Value) (z out : List AV), CellsOk w M r cells z → fillA pl z (l.map fun p => (p.1, st.ev p.2)) = some out →
    ∃ cs, Instr.fill place cells (l.map fun p => (p.1, a.eval p.2)) = some cs ∧ CellsOk w M r cs out
  | [], cells, z, out, hc, h => by
    simp [fillA] at h
    subst h
    exact ⟨cells, rfl, hc⟩
  | (f, x) :: l, cells, z, out, hc, h => by
    simp only [List.map_cons, fillA] at h
    split at h
    · rename_i o n hpl
      split at h
      · rename_i hcond
        obtain ⟨h1, h2, h3⟩ := hcond
        have hx := cells_rep (ev_rep ht x) h3
        have hnew := hc.spl hx o (by omega)
        obtain ⟨cs, hcs, hok⟩ := fill_rep hp (t := t) ht l _ _ out hnew h
        refine ⟨cs, ?_, hok⟩
        simp only [List.map_cons, Instr.fill, hp _ _ hpl]
        have hsz : (a.eval x).cells.size = n := by rw [hx.size, h1]
        rw [if_neg (by simp [hsz, hc.size]; omega)]
        rw [fill_step o (a.eval x).cells cells (by rw [hsz, hc.size]; exact h2)]
        exact hcs
      · cases h
    · cases h

theorem mapM_all : ∀ (fs : List Field), fs.all (fun f => (P.info? f.type).isSome) = true → ∃ places, fs.mapM (fun f => (P.info? f.type).map fun i => (f.offset, i.size)) = some places ∧
    ∀ (k : Nat) (fd : Field) (i : TypeInfo), fs[k]? = some fd → P.info? fd.type = some i → places[k]? = some (fd.offset, i.size)
  | [], _ => ⟨[], by simp, fun k fd i h => by simp at h⟩
  | f :: fs, h => by
    simp only [List.all_cons, Bool.and_eq_true] at h
    obtain ⟨h1, h2⟩ := h
    obtain ⟨places, hp, hk⟩ := mapM_all fs h2
    cases hi : P.info? f.type with
    | none => simp [hi] at h1
    | some i =>
      refine ⟨(f.offset, i.size) :: places, by simp [List.mapM_cons, hi, hp], fun k fd j h3 h4 => ?_⟩
      cases k with
      | zero => simp at h3; subst h3; rw [hi] at h4; injection h4 with h4; subst h4; rfl
      | succ k => exact hk k fd j (by simpa using h3) h4

theorem build_sound {a : Act} {t : TypeId} {parts : Array (Nat × Operand)} (h : Inv w0 F M st.b st.r w) (ht : Rept w M st.r a.tmps st.t) (hs : (buildR P t (parts.toList.map fun p => (p.1, st.ev p.2)) st).sem K) :
    OpOk P w0 F M st.t st.r w (Instr.build t (parts.map fun p => (p.1, a.eval p.2))) K := by
  have main : ∀ (z out : List AV) (zv : Value) (i : TypeInfo) (pl place : Nat → Option (Nat × Nat)), P.info? t = some i → i.zero = some zv → z = zv.cells.toList.map constA → z.all oneA = true →
      (∀ f x, pl f = some x → place f = some x) → fillA pl z (parts.toList.map fun p => (p.1, st.ev p.2)) = some out → (∀ cs, Instr.fill place zv.cells (parts.map fun p => (p.1, a.eval p.2)).toList = some cs → P.built t (parts.map fun p => (p.1, a.eval p.2)).toList = some cs) →
      K (mkAgg out) st → OpOk P w0 F M st.t st.r w (Instr.build t (parts.map fun p => (p.1, a.eval p.2))) K := by
    intro z out zv i pl place hi hzv hz hone hp hf hb hK
    subst hz
    obtain ⟨cs, hcs, hok⟩ := fill_rep (t := st.t) hp ht parts.toList zv.cells _ out (zero_cells hone) hf
    exact ok_stay h hK (run_build w t _ cs (hb cs (by simpa using hcs))) (mkAgg_rep hok)
  unfold buildR at hs
  split at hs
  · rename_i z hz
    obtain ⟨i, zv, hi, hzv, hzz⟩ := zero_spec hz
    split at hs
    · rename_i hone
      split at hs
      · rename_i hk
        split at hs
        · rename_i cs hf
          simp only [Res.sem, true_and] at hs
          cases hu : P.underlying t with
          | none => simp [kd?, hu] at hk
          | some d =>
            cases d with
            | struct fs =>
              simp only [kd?, hu] at hk
              split at hk
              · rename_i hall
                obtain ⟨places, hpl, hget⟩ := mapM_all fs.toList hall
                refine main z cs zv i (plS P t) (places.toArray[·]?) hi hzv hzz hone (fun f x hx => ?_) hf (fun cs' h' => ?_) hs
                · unfold plS at hx
                  cases hfo : fo? P t f with
                  | none => simp [hfo] at hx
                  | some q =>
                    obtain ⟨o, ft⟩ := q
                    rw [hfo] at hx
                    simp only [Option.map_eq_some_iff] at hx
                    obtain ⟨g, hg, rfl⟩ := hx
                    obtain ⟨g1, g2⟩ := g
                    obtain ⟨fs', fd, j, hu', hfd, rfl, rfl, hj, _⟩ := fo_spec hfo
                    rw [hu] at hu'
                    injection hu' with hu'
                    injection hu' with hu'
                    subst hu'
                    obtain ⟨j', hj', hsz, _⟩ := ty_info hg
                    rw [hj] at hj'
                    injection hj' with hj'
                    subst hj'
                    have := hget f fd j (by simpa using hfd) hj
                    simpa [hsz] using this
                · simp [Program.built, hi, hu, hzv, hpl]
                  simpa using h'
              · cases hk
            | int k => simp only [kd?, hu] at hk; cases k <;> cases hk
            | _ => simp [kd?, hu] at hk
        · exact hs.elim
      · rename_i n n' hk har
        split at hs
        · rename_i cs hf
          simp only [Res.sem, true_and] at hs
          obtain ⟨e, j, hu, hj, rfl⟩ := ar_spec har
          refine main z cs zv i (plA j.size) (fun i => some (i * j.size, j.size)) hi hzv hzz hone (fun f x hx => hx) hf (fun cs' h' => ?_) hs
          simp [Program.built, hi, hu, hzv, hj]
          simpa using h'
        · exact hs.elim
      · exact hs.elim
    · exact hs.elim
  · exact hs.elim

theorem zip_parts {α : Type} : ∀ (l : List (Nat × α)) (k : Nat), l.map (·.1) = List.range' k l.length → l = ((l.map (·.2)).zipIdx k).map fun x => (x.2, x.1)
  | [], _, _ => rfl
  | (i, x) :: l, k, h => by
    simp only [List.map_cons, List.length_cons, List.range'_succ, List.cons.injEq] at h
    obtain ⟨rfl, h⟩ := h
    simp only [List.map_cons, List.zipIdx_cons, List.map_cons]
    congr 1
    exact zip_parts l _ h

theorem newRow_okR (h : Inv w0 F M st.b st.r w) {s : Sem Value} {A : Arr} (hsz : 0 < A.sz) (he : ∀ e ∈ A.es, e.length = A.sz) {u : Value} {w' : World} (hg : w.grownBy w' none) {xs : List Value} (ho : rowAt w' A.ety A.sz u A.es.length xs)
    (h1 : ∀ x ∈ xs, x.oneCell' = true) (hr : ∀ k j, k < A.es.length → j < A.sz → Rep w (Okc M st.r) (xs.getD (k * A.sz + j) undef) ((A.es.getD k []).getD j .nilI)) (hv : ∀ g, u.ownBlock = some g → w.heap.size ≤ g)
    (hrun : s.run P w = .ok u w') (hK : K (.arr st.r.length A.es.length) (st.row A)) : OpOk P w0 F M st.t st.r w s K := by
  have hw : A.w = A.sz := Arr.w_of (by omega)
  obtain ⟨hI, hch, hb⟩ := h.newRow hg u A A.w_pos (by rw [hw]; exact he) xs (by rw [hw]; exact ho) h1 (by rw [hw]; exact fun k j hk hj => .inl (hr k j hk hj)) hv
  refine ⟨_, _, _, _, _, hK, hrun, hI, hch, .arr _ _ _ ?_ ⟨A, by simp [St.row], Nat.le_refl _, fun _ => hb.symm⟩, rfl⟩
  rcases ho.2 with ⟨rfl, _⟩ | ⟨g, cap, cur, o, rfl, _⟩ <;> rfl

theorem newRow_ok (h : Inv w0 F M st.b st.r w) {s : Sem Value} {A : Arr} (hsz : 0 < A.sz) (he : ∀ e ∈ A.es, e.length = A.sz) {u : Value} {w' : World} (hg : w.grownBy w' none) {xs : List Value} (ho : w'.ownsRow 0 A.ety A.sz u A.es.length xs)
    (h1 : ∀ x ∈ xs, x.oneCell' = true) (hr : ∀ k j, k < A.es.length → j < A.sz → Rep w (Okc M st.r) (xs.getD (k * A.sz + j) undef) ((A.es.getD k []).getD j .nilI)) (hv : ∀ g, u.ownBlock = some g → w.heap.size ≤ g)
    (hrun : s.run P w = .ok u w') (hK : K (.arr st.r.length A.es.length) (st.row A)) : OpOk P w0 F M st.t st.r w s K := newRow_okR h hsz he hg (rowAt_of ho) h1 hr hv hrun hK
theorem newRow_ok0 (h : Inv w0 F M st.b st.r w) {s : Sem Value} {A : Arr} (hsz : A.sz = 0) (he : ∀ e ∈ A.es, e.length = 1) {u : Value} {w' : World} (hg : w.grownBy w' none) {xs : List Value} (ho : w'.ownsRow 0 A.ety 1 u A.es.length xs)
    (h1 : ∀ x ∈ xs, x.oneCell' = true) (hr : ∀ k j, k < A.es.length → j < 1 → RepC w M st.r A (xs.getD (k * 1 + j) undef) ((A.es.getD k []).getD j .nilI)) (hv : ∀ g, u.ownBlock = some g → w.heap.size ≤ g)
    (hrun : s.run P w = .ok u w') (hK : K (.arr st.r.length A.es.length) (st.row A)) : OpOk P w0 F M st.t st.r w s K := by
  have hw : A.w = 1 := if_pos hsz
  obtain ⟨hI, hch, hb⟩ := h.newRow hg u A A.w_pos (by rw [hw]; exact he) xs (by rw [hw]; exact rowAt_of ho) h1 (by rw [hw]; exact hr) hv
  refine ⟨_, _, _, _, _, hK, hrun, hI, hch, .arr _ _ _ ?_ ⟨A, by simp [St.row], Nat.le_refl _, fun _ => hb.symm⟩, rfl⟩
  rcases ho.2 with ⟨rfl, _⟩ | ⟨g, cap, cur, rfl, _⟩ <;> rfl
theorem lnk1_spec {r : List Arr} {ps : List (Nat × AV)} {i id n : Nat} (h : lnk1 r ps = some (i, id, n)) : ps = [(i, .arr id n)] := by
  unfold lnk1 at h
  split at h
  · split at h
    · simp only [Option.some.injEq, Prod.mk.injEq] at h
      obtain ⟨rfl, rfl, rfl⟩ := h
      rfl
    · cases h
  · cases h

theorem getD_flat {α : Type} (sz : Nat) (hs : 0 < sz) : ∀ (vs : List (List α)) (k j : Nat) (x : α), (∀ v ∈ vs, v.length = sz) → k < vs.length → j < sz → (vs.flatten).getD (k * sz + j) x = (vs.getD k []).getD j x
  | [], k, _, _, _, hk, _ => absurd hk (by simp)
  | v :: vs, k, j, x, h, hk, hj => by
    have hv := h v (by simp)
    rw [List.flatten_cons]
    cases k with
    | zero =>
      rw [Nat.zero_mul, Nat.zero_add, getD_append_lt _ _ _ _ (by omega)]
      rfl
    | succ k =>
      have e : (v ++ vs.flatten).getD ((k + 1) * sz + j) x = vs.flatten.getD (k * sz + j) x := by
        rw [Nat.add_mul, Nat.one_mul]
        simp only [List.getD]
        rw [List.getElem?_append_right (by omega)]
        congr 2
        omega
      rw [e, getD_flat sz hs vs k j x (fun u hu => h u (by simp [hu])) (by simpa using hk) hj]
      rfl

theorem catA_flat : ∀ (l : List AV), catA l = l.flatMap cellsA
  | [] => rfl
  | x :: l => by rw [List.flatMap_cons, catA, catA_flat l]
theorem CellsOk.app {r : List Arr} {cs cs' : List Value} {xs xs' : List AV} (h : CellsOk w M r cs.toArray xs) (h' : CellsOk w M r cs'.toArray xs') : CellsOk w M r (cs ++ cs').toArray (xs ++ xs') := by
  have hs : cs.length = xs.length := by simpa using h.size
  have hs' : cs'.length = xs'.length := by simpa using h'.size
  have gd : ∀ (l : List Value) j, l.toArray.getD j undef = l.getD j undef := fun l j => by
    rcases Nat.lt_or_ge j l.length with h1 | h1
    · simp [List.getD, Array.getD, h1]
    · simp [List.getD, Array.getD, h1, Nat.not_lt.2 h1]
  have e1 : ∀ j, j < xs.length → (cs ++ cs').getD j undef = cs.getD j undef ∧ (xs ++ xs').getD j .undef = xs.getD j .undef := fun j hj =>
    ⟨getD_append_lt _ _ _ _ (by omega), getD_append_lt _ _ _ _ hj⟩
  have e2 : ∀ j, xs.length ≤ j → (cs ++ cs').getD j undef = cs'.getD (j - xs.length) undef ∧ (xs ++ xs').getD j .undef = xs'.getD (j - xs.length) .undef := fun j hj => by
    constructor
    · simp only [List.getD]
      rw [List.getElem?_append_right (by omega), hs]
    · simp only [List.getD]
      rw [List.getElem?_append_right (by omega)]
  refine ⟨by simp [hs, hs'], fun j hj => ?_, fun j hj => ?_⟩ <;> rw [gd]
  · rcases Nat.lt_or_ge j xs.length with h1 | h1
    · rw [(e1 j h1).1, ← gd]
      exact h.one j h1
    · rw [(e2 j h1).1, ← gd]
      exact h'.one _ (by simp at hj; omega)
  · rcases Nat.lt_or_ge j xs.length with h1 | h1
    · rw [(e1 j h1).1, (e1 j h1).2, ← gd]
      exact h.rep j h1
    · rw [(e2 j h1).1, (e2 j h1).2, ← gd]
      exact h'.rep _ (by simp at hj; omega)
theorem CellsOk.flat {r : List Arr} : ∀ (l : List (Value × AV)), (∀ p ∈ l, CellsOk w M r p.1.cells (cellsA p.2)) → CellsOk w M r (l.flatMap fun p => p.1.cells.toList).toArray (l.flatMap fun p => cellsA p.2)
  | [], _ => ⟨rfl, fun j hj => absurd hj (by simp), fun j hj => absurd hj (by simp)⟩
  | p :: l, h => by
    rw [List.flatMap_cons, List.flatMap_cons]
    refine CellsOk.app ?_ (CellsOk.flat l fun q hq => h q (List.mem_cons_of_mem _ hq))
    simpa using h p List.mem_cons_self

theorem bslice_sound {a : Act} {t : TypeId} {len : Nat} {parts : Array (Nat × Operand)} (h : Inv w0 F M st.b st.r w) (ht : Rept w M st.r a.tmps st.t) (hs : (bsliceR P t len (parts.toList.map fun p => (p.1, st.ev p.2)) st).sem K) :
    OpOk P w0 F M st.t st.r w (Instr.buildSlice t len (parts.map fun p => (p.1, a.eval p.2))) K := by
  obtain ⟨l, rfl⟩ : ∃ l : List (Nat × Operand), parts = l.toArray := ⟨parts.toList, by simp⟩
  rw [show l.toArray.toList = l from by simp] at hs
  unfold bsliceR at hs
  split at hs
  · rename_i e n y hsl
    obtain ⟨inf, z, hu, hin, hz, hzs, hp, _, rfl, _⟩ := sl_spec hsl
    split at hs
    · rename_i i id m hlk
      have hps := lnk1_spec hlk
      obtain ⟨⟨i0, o⟩, rfl⟩ : ∃ p, l = [p] := List.length_eq_one_iff.1 (by
        have := congrArg List.length hps
        simpa using this)
      simp only [List.map_cons, List.map_nil, List.cons.injEq, Prod.mk.injEq, and_true] at hps
      obtain ⟨rfl, ho⟩ := hps
      simp only [Res.sem] at hs
      obtain ⟨⟨rfl, rfl, hn1⟩, hK⟩ := hs
      have hov := ev_rep ht o
      rw [ho] at hov
      have hone0 : ∀ u, RepA w M st.r u (.arr id m) → u.oneCell' = true := fun u hu => by
        cases hu with
        | arr _ _ _ h1 _ => exact h1
      have hone := hone0 _ hov
      have hcells : (a.eval o).cells.toList = [a.eval o] := by rw [cells_one hone]
      have hsz1 : (a.eval o).cells.size = 1 := by
        rw [← Array.length_toList, hcells]
        rfl
      have hrun : (Instr.buildSlice t 1 (#[((0, o) : Nat × Operand)].map fun p => (p.1, a.eval p.2))).run P w =
          .ok (.slice (some ⟨w.heap.size, 0, none⟩) 1 1) (w.alloc (.cells ([a.eval o].flatMap fun v => v.cells.toList).toArray e)) := by
        refine run_buildSlice w t e 1 _ _ inf z hu hin hz (by omega) (by omega) ?_
        have hparts : (#[((0, o) : Nat × Operand)].map fun p => (p.1, a.eval p.2)).toList = ([a.eval o].zipIdx).map fun x => (x.2, x.1) := by simp
        rw [hparts]
        refine Great.fill_whole hp [a.eval o] _ (fun v hv => by
          simp only [List.mem_singleton] at hv
          rw [hv, hsz1, hn1]) ?_
        simp
      refine newRow_ok0 (A := ⟨0, e, [[.ref id m]], false⟩) h rfl (fun e' he' => by
        simp only [List.mem_singleton] at he'
        rw [he']
        rfl) (World.grownBy_alloc w _ none) (u := .slice (some ⟨w.heap.size, 0, none⟩) 1 1) (xs := [a.eval o]) ?_ (fun x hx => ?_) (fun k j hk hj => ?_) (fun g hg => by simp [Value.ownBlock] at hg; omega) (by simpa using hrun) hK
      · refine ⟨rfl, .inr ⟨w.heap.size, 1, _, rfl, Nat.zero_le _, heap_alloc_new w _, Nat.le_refl _, by simp [maxLen], ?_, ?_⟩⟩
        · simp [hsz1]
        · simp [hcells]
      · simp only [List.mem_singleton] at hx
        rw [hx]
        exact hone
      · simp only [List.length_cons, List.length_nil] at hk
        obtain rfl : k = 0 := by omega
        obtain rfl : j = 0 := by omega
        exact .inr ⟨rfl, id, m, rfl, hov⟩
    split at hs
    · simp only [Res.sem] at hs
      obtain ⟨⟨hidx, ⟨hl0, hsm⟩, hall⟩, hK⟩ := hs
      have hpl : l.length = len := by
        have := congrArg List.length hidx
        simpa using this
      have hc1 : ∀ p ∈ l, (cellsA (st.ev p.2)).length = inf.size ∧ CellsOk w M st.r (a.eval p.2).cells (cellsA (st.ev p.2)) := by
        intro p hp1
        have := List.all_eq_true.1 hall (st.ev p.2) (by
          simp only [List.map_map, List.mem_map]
          exact ⟨p, hp1, rfl⟩)
        simp only [Bool.and_eq_true, decide_eq_true_eq] at this
        exact ⟨this.1, cells_rep (ev_rep ht p.2) this.2⟩
      have hparts : (l.toArray.map fun p => (p.1, a.eval p.2)).toList = ((l.map fun p => a.eval p.2).zipIdx 0).map fun x => (x.2, x.1) := by
        have := zip_parts (l.map fun p => (p.1, a.eval p.2)) 0 (by
          rw [← List.range_eq_range', List.length_map, hpl, ← hidx]
          simp [Function.comp_def])
        simpa [Function.comp_def] using this
      have hmul := Nat.mul_le_mul_left len (show 1 ≤ inf.size from hp)
      have hrun : (Instr.buildSlice t len (l.toArray.map fun p => (p.1, a.eval p.2))).run P w =
          .ok (.slice (some ⟨w.heap.size, 0, none⟩) len len) (w.alloc (.cells ((l.map fun p => a.eval p.2).flatMap fun v => v.cells.toList).toArray e)) := by
        refine run_buildSlice w t e len _ _ inf z hu hin hz (by omega) (by omega) ?_
        rw [hparts]
        refine Great.fill_whole hp _ _ (fun v hv => ?_) (by simp [hpl])
        obtain ⟨p, hp1, rfl⟩ := List.mem_map.1 hv
        have := (hc1 p hp1).2.size
        rw [this, (hc1 p hp1).1]
      have hco := CellsOk.flat (w := w) (M := M) (r := st.r) (l.map fun p => (a.eval p.2, st.ev p.2)) (fun q hq => by
        obtain ⟨p, hp1, rfl⟩ := List.mem_map.1 hq
        exact (hc1 p hp1).2)
      have f1 : ((l.map fun p => (a.eval p.2, st.ev p.2)).flatMap fun p => p.1.cells.toList) = ((l.map fun p => a.eval p.2).flatMap fun v => v.cells.toList) := by
        simp [List.flatMap_map]
      have f2 : ((l.map fun p => (a.eval p.2, st.ev p.2)).flatMap fun p => cellsA p.2) = catA ((l.map fun p => (p.1, st.ev p.2)).map (·.2)) := by
        rw [catA_flat]
        simp [List.flatMap_map]
      rw [f1, f2] at hco
      obtain ⟨hI, hch, hb⟩ := h.newBox _ e _ hco.size hco.one hco.rep
      refine ⟨_, _, _, _, _, hK, hrun, hI, hch, ?_, rfl⟩
      have e5 : RepA (w.alloc (.cells ((l.map fun p => a.eval p.2).flatMap fun v => v.cells.toList).toArray e)) ⟨M.bb ++ [w.heap.size], M.av, M.no⟩ st.r (.slice (some ⟨Mem.blk ⟨M.bb ++ [w.heap.size], M.av, M.no⟩ st.b.length, 0, none⟩) len len) (.bsl st.b.length len) :=
        .bsl _ _ (by have := h.lb; simp; omega) ⟨Nat.le_refl _, by simp only [maxLen]; omega⟩
      rw [hb] at e5
      exact e5
    have hgetp : ∀ i, i < l.length → (((l.map fun p => (p.1, st.ev p.2)).map (·.2)).getD i .undef) = st.ev (l.getD i (0, .const undef)).2 := by
      intro i hi; simp [List.getD, hi]
    obtain ⟨ds, hs, hl, hI, hc, hrep⟩ := toDR_sound h (fun i => a.eval (l.getD i (0, .const undef)).2) (fun i hi => by
      rw [hgetp i (by simpa using hi)]
      exact ev_rep ht _) hs
    simp only [Res.sem] at hs
    obtain ⟨⟨hidx, hsm, hall⟩, hK⟩ := hs
    refine OpOk.chg hc ?_
    have hpl : l.length = len := by
      have := congrArg List.length hidx
      simpa using this
    have hdl : ds.length = len := by rw [hl]; simpa using hpl
    have hd1 : ∀ i, i < ds.length → (cellsD (ds.getD i .nilI)).length = inf.size ∧ (cellsD (ds.getD i .nilI)).all oneD = true := by
      intro i hi
      have := List.all_eq_true.1 hall _ (List.getElem_mem hi)
      simp only [Bool.and_eq_true, decide_eq_true_eq] at this
      have e : ds.getD i .nilI = ds[i] := by simp [List.getD, hi]
      rw [e]
      exact this
    have hparts : (l.toArray.map fun p => (p.1, a.eval p.2)).toList = ((l.map fun p => a.eval p.2).zipIdx 0).map fun x => (x.2, x.1) := by
      have := zip_parts (l.map fun p => (p.1, a.eval p.2)) 0 (by
        rw [← List.range_eq_range', List.length_map, hpl, ← hidx]
        simp [Function.comp_def])
      simpa [Function.comp_def] using this
    have hvget : ∀ i, i < len → (l.map fun p => a.eval p.2).getD i undef = a.eval (l.getD i (0, .const undef)).2 := by
      intro i hi; simp [List.getD, hpl, hi]
    have hvs : ∀ i, i < len → ((l.map fun p => a.eval p.2).getD i undef).cells.size = inf.size ∧ _ := fun i hi => by
      rw [hvget i hi]
      have h2 := (hrep i (by omega)).oneL (hd1 i (by omega)).2
      exact ⟨by rw [h2.1, (hd1 i (by omega)).1], h2⟩
    have hmemv : ∀ v ∈ (l.map fun p => a.eval p.2), v.cells.size = inf.size ∧ (∀ j, j < inf.size → (v.cells.getD j undef).oneCell' = true) := by
      intro v hv
      obtain ⟨i, hi, rfl⟩ := List.getElem_of_mem hv
      have hi' : i < len := by simpa [hpl] using hi
      have h3 := hvs i hi'
      have e : (l.map fun p => a.eval p.2).getD i undef = (l.map fun p => a.eval p.2)[i] := by simp [List.getD, hpl, hi']
      rw [e] at h3
      refine ⟨h3.1, fun j hj => ?_⟩
      have := h3.2.2.1 j (by rw [(hd1 i (by omega)).1]; exact hj)
      rw [← hvget i hi', e] at this
      exact this
    have hflat : ((l.map fun p => a.eval p.2).flatMap fun v => v.cells.toList) = ((l.map fun p => a.eval p.2).map fun v => v.cells.toList).flatten := by rw [List.flatMap_def]
    have hrun : (Instr.buildSlice t len (l.toArray.map fun p => (p.1, a.eval p.2))).run P w =
        .ok (.slice (some ⟨w.heap.size, 0, none⟩) len len) (w.alloc (.cells ((l.map fun p => a.eval p.2).flatMap fun v => v.cells.toList).toArray e)) := by
      rcases Nat.eq_zero_or_pos len with h0 | h0
      · subst h0
        have hnil : l = [] := List.eq_nil_of_length_eq_zero hpl
        subst hnil
        have hr0 : ∀ f : Nat → Value, Array.map f (Array.range 0) = #[] := fun f => Array.eq_empty_of_size_eq_zero (by simp)
        simp [Instr.buildSlice, run_underlying hu, sizeOf, typeInfo, hin, newRow, Instr.fill, hr0]
      · refine run_buildSlice w t e len _ _ inf z hu hin hz (by omega) (by have := Nat.mul_pos h0 hp; omega) ?_
        rw [hparts]
        exact Great.fill_whole hp _ _ (fun v hv => (hmemv v hv).1) (by simp [hpl])
    have hlen0 : (ds.map cellsD).length = len := by simp [hdl]
    have hK' : K (.arr (share st.r (arrIdsL ((l.map fun p => (p.1, st.ev p.2)).map (·.2)))).length (ds.map cellsD).length) (St.row { st with r := share st.r (arrIdsL ((l.map fun p => (p.1, st.ev p.2)).map (·.2))) } ⟨inf.size, e, ds.map cellsD, false⟩) := by
      rw [hlen0]; exact hK
    refine newRow_ok (st := { st with r := share st.r (arrIdsL ((l.map fun p => (p.1, st.ev p.2)).map (·.2))) }) hI (A := ⟨inf.size, e, ds.map cellsD, false⟩) hp (fun e' he' => ?_) (World.grownBy_alloc w _ none)
      (u := .slice (some ⟨w.heap.size, 0, none⟩) len len) (xs := (l.map fun p => a.eval p.2).flatMap fun v => v.cells.toList) ?_ (fun x hx => ?_) (fun k j hk hj => ?_) (fun g hg => by simp [Value.ownBlock] at hg; omega) hrun hK'
    · obtain ⟨d, hd, rfl⟩ := List.mem_map.1 he'
      obtain ⟨i, hi, rfl⟩ := List.getElem_of_mem hd
      have := (hd1 i hi).1
      simpa [List.getD, hi] using this
    · have hxl : ((l.map fun p => a.eval p.2).flatMap fun v => v.cells.toList).length = len * inf.size := by
        rw [List.length_flatMap]
        have e2 : (l.map fun p => a.eval p.2).map (fun v => v.cells.toList.length) = List.replicate len inf.size := by
          apply List.ext_getElem
          · simp [hpl]
          · intro i h1 h2
            have := (hmemv _ (List.getElem_mem (show i < (l.map fun p => a.eval p.2).length by simpa using h1))).1
            simpa using this
        rw [e2]
        simp
      refine ⟨by rw [hlen0, hxl], .inr ⟨w.heap.size, len, _, by rw [hlen0], Nat.zero_le _, heap_alloc_new w _, by rw [hlen0]; exact Nat.le_refl _, ?_, by rw [List.size_toArray, hxl], by rw [hlen0]; exact List.take_of_length_le (Nat.le_of_eq hxl)⟩⟩
      simp only [maxLen]
      have := Nat.le_mul_of_pos_right len hp
      omega
    · obtain ⟨v, hv, hx⟩ := List.mem_flatMap.1 hx
      obtain ⟨j, hj, rfl⟩ := mem_getD hx
      obtain ⟨h2, h3⟩ := hmemv v hv
      exact h3 j (by omega)
    · have hk' : k < len := by simpa [hdl] using hk
      rw [hflat, getD_flat inf.size hp _ k j undef (fun v hv => by
        obtain ⟨v', hv', rfl⟩ := List.mem_map.1 hv
        simpa using (hmemv v' hv').1) (by simp [hpl, hk']) hj]
      have e1 : ((l.map fun p => a.eval p.2).map fun v => v.cells.toList).getD k [] = ((l.map fun p => a.eval p.2).getD k undef).cells.toList := by simp [List.getD, hpl, hk']
      have e2 : (ds.map cellsD).getD k [] = cellsD (ds.getD k .nilI) := by
        have hk2 : k < ds.length := by omega
        simp [List.getD, hk2]
      rw [e1, e2, toList_getD, hvget k hk']
      exact ((hrep k (by omega)).oneL (hd1 k (by omega)).2).2.2 j (by rw [(hd1 k (by omega)).1]; exact hj)
  · exact hs.elim
end
end Go.PE
end

section
/- The evaluator is right, 5: structs compared cell by cell (see PeA, PeD). -/
set_option linter.unusedVariables false
set_option linter.unusedSimpArgs false
namespace Go.PE
open Go

section
variable {P : Program} {w : World} {ok : Addr → Prop}

theorem beq_dec {α : Type} [BEq α] [LawfulBEq α] [DecidableEq α] (a b : α) : (a == b) = decide (a = b) := by
  rw [Bool.eq_iff_iff]; simp

theorem catK_mem : ∀ {l : List (Option (List Nat))} {ks : List Nat}, catK l = some ks → ∀ o ∈ l, ∃ k, o = some k
  | [], _, _, o, h => by cases h
  | some a :: l, ks, h, o, ho => by
    simp only [catK, Option.map_eq_some_iff] at h
    obtain ⟨k2, h2, _⟩ := h
    rcases List.mem_cons.1 ho with rfl | ho
    · exact ⟨a, rfl⟩
    · exact catK_mem h2 o ho
  | none :: _, _, h, _, _ => by simp [catK] at h

theorem cellK_guard : ∀ (d : Nat) (t : TypeId) (ks : List Nat), cellK P d t = some ks → ∀ d', d ≤ d' → P.eqGuardType d' t = false
  | 0, _, _, h, _, _ => by simp [cellK] at h
  | d + 1, t, ks, h, d', hd => by
    obtain ⟨e, rfl⟩ : ∃ e, d' = e + 1 := ⟨d' - 1, by omega⟩
    unfold cellK at h
    unfold Program.eqGuardType
    split at h
    · rename_i hu; simp [hu]
    · rename_i hu; simp [hu]
    · rename_i hu; simp [hu]
    · rename_i fs _ hu
      split at h
      · rw [hu]
        simp only [Array.any_eq_false']
        intro f hf
        obtain ⟨k, hk⟩ := catK_mem h (cellK P d f.type) (List.mem_map.2 ⟨f, by simpa using hf, rfl⟩)
        rw [cellK_guard d f.type k hk e (by omega)]
        simp
      · cases h
    · cases h

theorem lay_ge : ∀ (fs : List Field) (k n : Nat), lay P k fs = some n → k ≤ n
  | [], k, n, h => by simp [lay] at h; omega
  | f :: fs, k, n, h => by
    simp only [lay] at h
    split at h
    · split at h
      · have := lay_ge fs _ n h; omega
      · cases h
    · cases h

theorem cellK_size : ∀ (d : Nat) (t : TypeId) (ks : List Nat), cellK P d t = some ks → ∃ g i, ty? P t = some (g, i.size) ∧ P.info? t = some i ∧ (∀ w : World, (isAgg t).run P w = .ok g w) ∧ (g = false → i.size = 1) ∧ ks.length = i.size
  | 0, _, _, h => by simp [cellK] at h
  | d + 1, t, ks, h => by
    unfold cellK at h
    split at h
    · rename_i i hi hu
      split at h
      · rename_i hs; injection h with h; subst h
        exact ⟨false, i, by simp [ty?, hi, hu, hs], hi, fun w => by simp [isAgg, run_underlying hu], fun _ => hs, by simp [hs]⟩
      · cases h
    · rename_i i hi hu
      split at h
      · rename_i hs; injection h with h; subst h
        exact ⟨false, i, by simp [ty?, hi, hu, hs], hi, fun w => by simp [isAgg, run_underlying hu], fun _ => hs, by simp [hs]⟩
      · cases h
    · rename_i i k hi hu
      split at h
      · rename_i hs; injection h with h; subst h
        exact ⟨false, i, by simp [ty?, hi, hu, hs], hi, fun w => by simp [isAgg, run_underlying hu], fun _ => hs, by simp [hs]⟩
      · cases h
    · rename_i i fs hi hu
      split at h
      · rename_i hc
        refine ⟨true, i, by simp [ty?, hi, hu], hi, fun w => by simp [isAgg, run_underlying hu], by simp, ?_⟩
        have key : ∀ (l : List Field) (k n : Nat) (ks : List Nat), lay P k l = some n → catK (l.map fun f => cellK P d f.type) = some ks → ks.length = n - k := by
          intro l
          induction l with
          | nil => intro k n ks h1 h2; simp [lay] at h1; simp [catK] at h2; subst h2; simp; omega
          | cons f l ih =>
            intro k n ks h1 h2
            simp only [lay] at h1
            split at h1
            · split at h1
              · rename_i j hj
                simp only [List.map_cons] at h2
                cases hk : cellK P d f.type with
                | none => simp [hk, catK] at h2
                | some k1 =>
                  rw [hk] at h2
                  simp only [catK, Option.map_eq_some_iff] at h2
                  obtain ⟨k2, h3, rfl⟩ := h2
                  obtain ⟨_, j', _, hj', _, _, hl⟩ := cellK_size d f.type k1 hk
                  rw [hj] at hj'
                  injection hj' with hj'
                  subst hj'
                  have h4 := ih _ _ _ h1 h3
                  have h5 := lay_ge l _ n h1
                  rw [List.length_append, hl, h4]
                  omega
              · cases h1
            · cases h1
        simpa using key _ _ _ _ hc.2.1 h
      · cases h
    · cases h

theorem eqL_append : ∀ {a b a' b' : List D} {c : Bool}, a.length = b.length → eqL (a ++ a') (b ++ b') = some c → ∃ c1 c2, eqL a b = some c1 ∧ eqL a' b' = some c2 ∧ c = (c1 && c2)
  | [], [], a', b', c, _, h => ⟨true, c, rfl, h, by simp⟩
  | [], _ :: _, _, _, _, h, _ => by simp at h
  | _ :: _, [], _, _, _, h, _ => by simp at h
  | x :: a, y :: b, a', b', c, hl, h => by
    simp only [List.cons_append, eqL] at h
    split at h
    · rename_i c0 c1 h0 h1
      obtain ⟨c2, c3, e2, e3, rfl⟩ := eqL_append (by simpa using hl) h1
      injection h with h
      exact ⟨c0 && c2, c3, by simp [eqL, h0, e2], e3, by rw [← h, Bool.and_assoc]⟩
    · cases h

theorem fits_append : ∀ {k k' : List Nat} {a a' : List D}, k.length = a.length → fits (k ++ k') (a ++ a') = true → fits k a = true ∧ fits k' a' = true
  | [], k', [], a', _, h => ⟨rfl, h⟩
  | [], _, _ :: _, _, h, _ => by simp at h
  | _ :: _, _, [], _, h, _ => by simp at h
  | n :: k, k', x :: a, a', hl, h => by
    simp only [List.cons_append, fits, Bool.and_eq_true] at h ⊢
    obtain ⟨h1, h2⟩ := fits_append (by simpa using hl) h.2
    exact ⟨⟨h.1, h1⟩, h2⟩

theorem fits_len : ∀ {k : List Nat} {a : List D}, fits k a = true → a.length = k.length
  | [], [], _ => rfl
  | [], _ :: _, h => by simp [fits] at h
  | _ :: _, [], h => by simp [fits] at h
  | n :: k, x :: a, h => by
    simp only [fits, Bool.and_eq_true] at h
    simp [fits_len h.2]
theorem fits_one {n : Nat} {a : List D} (h : fits [n] a = true) : ∃ x, a = [x] ∧ fit1 n x = true := by
  have hl := fits_len h
  match a, hl with
  | [x], _ => exact ⟨x, rfl, by simpa [fits] using h⟩
theorem fit_bool {x : D} (h : fit1 1 x = true) : ∃ b, x = .bool b := by cases x <;> simp [fit1] at h; exact ⟨_, rfl⟩
theorem fit_str {x : D} (h : fit1 0 x = true) : ∃ b, x = .str b := by cases x <;> simp [fit1] at h; exact ⟨_, rfl⟩
theorem fit_int {x : D} (h : fit1 2 x = true) : ∃ k n, x = .int k n := by cases x <;> simp [fit1] at h; exact ⟨_, _, rfl⟩

def CellsD (w : World) (ok : Addr → Prop) (xs : Array Value) (as : List D) : Prop := xs.size = as.length ∧ ∀ j, j < as.length → Rep w ok (xs.getD j undef) (as.getD j .nilI)

theorem CellsD.sub {xs : Array Value} {as : List D} (h : CellsD w ok xs as) (o n : Nat) (hn : o + n ≤ as.length) : CellsD w ok (xs.extract o (o + n)) ((as.drop o).take n) := by
  have hs := h.1
  refine ⟨by simp; omega, fun j hj => ?_⟩
  rw [len_sub _ _ _ hn] at hj
  rw [getD_sub _ _ _ _ _ hj]
  have e : (xs.extract o (o + n)).getD j undef = xs.getD (o + j) undef := by
    simp only [Array.getD, Array.size_extract]
    rw [dif_pos (by omega), dif_pos (by omega)]
    simp
  rw [e]
  exact h.2 _ (by omega)

theorem run_part {t : TypeId} {g : Bool} {i : TypeInfo} (hi : P.info? t = some i) (hg : ∀ w : World, (isAgg t).run P w = .ok g w) (h1 : g = false → i.size = 1) (xs : Array Value) (o : Nat) (ho : o + i.size ≤ xs.size) :
    (part t xs o).run P w = .ok (mkVal g (xs.extract o (o + i.size))) w := by
  unfold part
  cases g with
  | true => simp [hg, sizeOf, typeInfo, hi, mkVal]
  | false =>
    have h2 := h1 rfl
    have h3 : o < xs.size := by omega
    have e : (xs.extract o (o + i.size)).getD 0 undef = xs[o] := by
      simp only [Array.getD, Array.size_extract]
      rw [dif_pos (by omega)]
      simp
    simp [hg, h3, mkVal, e]

theorem eq_flat : ∀ (d : Nat) (t : TypeId) (ks : List Nat), cellK P d t = some ks → ∀ d', d ≤ d' → ∀ (g : Bool), (∀ w : World, (isAgg t).run P w = .ok g w) → ∀ (xs ys : Array Value) (as bs : List D) (c : Bool),
    CellsD w ok xs as → CellsD w ok ys bs → fits ks as = true → fits ks bs = true → eqL as bs = some c → (Op.equalIn d' t (mkVal g xs) (mkVal g ys)).run P w = .ok c w
  | 0, _, _, h, _, _, _, _, _, _, _, _, _, _, _, _, _, _ => by simp [cellK] at h
  | d + 1, t, ks, h, d', hd, g, hg, xs, ys, as, bs, c, hx, hy, fx, fy, he => by
    obtain ⟨e, rfl⟩ : ∃ e, d' = e + 1 := ⟨d' - 1, by omega⟩
    have h0 := h
    unfold cellK at h
    have hgw : ∀ g', (isAgg t).run P w = .ok g' w → g = g' := fun g' h' => by
      have := hg w
      rw [h'] at this
      injection this with this
      exact this.symm
    have one : ∀ {zs : Array Value} {x : D}, CellsD w ok zs [x] → Rep w ok (zs.getD 0 undef) x := fun hz => hz.2 0 (by simp)
    split at h
    · rename_i i hi hu
      split at h
      · injection h with h; subst h
        obtain rfl := hgw false (by simp [isAgg, run_underlying hu])
        obtain ⟨_, rfl, f1⟩ := fits_one fx
        obtain ⟨_, rfl, f2⟩ := fits_one fy
        obtain ⟨a, rfl⟩ := fit_bool f1
        obtain ⟨b, rfl⟩ := fit_bool f2
        · have e1 := one hx
          have e2 := one hy
          show (Op.equalIn (e + 1) t (xs.getD 0 undef) (ys.getD 0 undef)).run P w = _
          generalize xs.getD 0 undef = u at e1 ⊢
          generalize ys.getD 0 undef = v at e2 ⊢
          cases e1; cases e2
          rw [run_equalIn_bool' w e t a b hu]
          simp [eqL, eqD] at he
          rw [he]
      · cases h
    · rename_i i hi hu
      split at h
      · injection h with h; subst h
        obtain rfl := hgw false (by simp [isAgg, run_underlying hu])
        obtain ⟨_, rfl, f1⟩ := fits_one fx
        obtain ⟨_, rfl, f2⟩ := fits_one fy
        obtain ⟨a, rfl⟩ := fit_str f1
        obtain ⟨b, rfl⟩ := fit_str f2
        · have e1 := one hx
          have e2 := one hy
          show (Op.equalIn (e + 1) t (xs.getD 0 undef) (ys.getD 0 undef)).run P w = _
          generalize xs.getD 0 undef = u at e1 ⊢
          generalize ys.getD 0 undef = v at e2 ⊢
          cases e1; cases e2
          rw [run_equalIn_string w e t _ _ hu]
          simp only [eqL, eqD, Bool.and_true, Option.some.injEq] at he
          rw [← he, ByteArray.toList_eq, ByteArray.toList_eq, beq_dec]
      · cases h
    · rename_i i k hi hu
      split at h
      · injection h with h; subst h
        obtain rfl := hgw false (by simp [isAgg, run_underlying hu])
        obtain ⟨_, rfl, f1⟩ := fits_one fx
        obtain ⟨_, rfl, f2⟩ := fits_one fy
        obtain ⟨ka, a, rfl⟩ := fit_int f1
        obtain ⟨kb, b, rfl⟩ := fit_int f2
        · have e1 := one hx
          have e2 := one hy
          show (Op.equalIn (e + 1) t (xs.getD 0 undef) (ys.getD 0 undef)).run P w = _
          generalize xs.getD 0 undef = u at e1 ⊢
          generalize ys.getD 0 undef = v at e2 ⊢
          cases e1; cases e2
          simp only [eqL, eqD] at he
          by_cases hk : ka = kb
          · subst hk
            rw [run_equalIn_int w e t ka _ a b hu]
            simp at he
            rw [← he, beq_dec]
          · rw [if_neg hk] at he
            cases he
      · cases h
    · rename_i i fs hi hu
      split at h
      · rename_i hc
        obtain ⟨hst, hlay, hnm⟩ := hc
        obtain rfl := hgw true (by simp [isAgg, run_underlying hu])
        show (Op.equalIn (e + 1) t (.agg xs) (.agg ys)).run P w = _
        have hf : P.fieldsOf t = fs := by simp [Program.fieldsOf, hu]
        rw [run_equalIn_struct w e t xs ys (by rw [hf]; exact hu) hst, hf]
        have hal := fits_len fx
        have hbl := fits_len fy
        obtain ⟨_, i', _, hi', _, _, hkl⟩ := cellK_size (d + 1) t ks h0
        rw [hi] at hi'
        injection hi' with hi'
        subst hi'
        have key : ∀ (l : List Field) (k : Nat) (ks : List Nat) (c : Bool), lay P k l = some i.size → l.all (fun f => f.name != "_") = true → catK (l.map fun f => cellK P d f.type) = some ks →
            fits ks (as.drop k) = true → fits ks (bs.drop k) = true → eqL (as.drop k) (bs.drop k) = some c → (Op.eqFields e xs ys l).run P w = .ok c w := by
          intro l
          induction l with
          | nil =>
            intro k ks c h1 _ h2 h3 h4 h5
            simp [catK] at h2
            subst h2
            have e1 : as.drop k = [] := List.eq_nil_of_length_eq_zero (fits_len h3)
            have e2 : bs.drop k = [] := List.eq_nil_of_length_eq_zero (fits_len h4)
            rw [e1, e2] at h5
            simp [eqL] at h5
            subst h5
            simp [Op.eqFields]
          | cons f l ih =>
            intro k ks c h1 hn h2 h3 h4 h5
            simp only [List.all_cons, Bool.and_eq_true] at hn
            simp only [lay] at h1
            split at h1
            · rename_i hoff
              split at h1
              · rename_i j hj
                simp only [List.map_cons] at h2
                cases hk : cellK P d f.type with
                | none => simp [hk, catK] at h2
                | some k1 =>
                  rw [hk] at h2
                  simp only [catK, Option.map_eq_some_iff] at h2
                  obtain ⟨k2, h6, rfl⟩ := h2
                  obtain ⟨g', j', _, hj', hg', hg1, hl⟩ := cellK_size d f.type k1 hk
                  rw [hj] at hj'
                  injection hj' with hj'
                  subst hj'
                  have hge := lay_ge l _ _ h1
                  have sp : ∀ (zs : List D), zs.drop k = (zs.drop k).take j.size ++ zs.drop (k + j.size) := fun zs => by
                    rw [← List.drop_drop, List.take_append_drop]
                  have la : ((as.drop k).take j.size).length = j.size := len_sub _ _ _ (by omega)
                  have lb : ((bs.drop k).take j.size).length = j.size := len_sub _ _ _ (by omega)
                  rw [sp as] at h3 h5
                  rw [sp bs] at h4 h5
                  obtain ⟨f1, f2⟩ := fits_append (by rw [la, hl]) h3
                  obtain ⟨f3, f4⟩ := fits_append (by rw [lb, hl]) h4
                  obtain ⟨c1, c2, e1, e2, rfl⟩ := eqL_append (by rw [la, lb]) h5
                  have hpx := run_part (w := w) hj hg' hg1 xs k (by rw [hx.1]; omega)
                  have hpy := run_part (w := w) hj hg' hg1 ys k (by rw [hy.1]; omega)
                  have hq := eq_flat d f.type k1 hk e (by omega) g' hg' _ _ _ _ c1 (hx.sub k j.size (by omega)) (hy.sub k j.size (by omega)) f1 f3 e1
                  have hr := ih (k + j.size) k2 c2 h1 hn.2 h6 f2 f4 e2
                  have hne : f.name ≠ "_" := by simpa using hn.1
                  rw [Op.eqFields]
                  simp only [if_pos hne, hoff, Sem.run_bind, hpx, hpy, hq, Result.andThen_ok]
                  cases c1
                  · simp
                  · simpa using hr
              · cases h1
            · cases h1
        exact key fs.toList 0 ks c hlay hnm h fx fy he
      · cases h
    · cases h
end
end Go.PE
end

section
/- The evaluator is right, 6: arithmetic, strings, slices, append and the rest (see PeA, PeD). -/
set_option linter.unusedVariables false
set_option linter.unusedSimpArgs false
namespace Go.PE
open Go

section
variable {P : Program} {w0 : World} {F : List Nat} {M : Mem} {st : St} {w : World} {K : AV → St → Prop}

theorem assign_sound {t : TypeId} {x : AV} {u : Value} (h : Inv w0 F M st.b st.r w) (hx : RepA w M st.r u x) (hs : (assignR P t x st).sem K) : OpOk P w0 F M st.t st.r w (pure u) K := by
  unfold assignR at hs
  split at hs
  · split at hs
    · rename_i e n y hsl
      obtain ⟨inf, z, hu, hin, hz, hzs, hp, _, rfl, _⟩ := sl_spec hsl
      simp only [Res.sem, true_and] at hs
      cases hx
      refine newRow_ok h (A := ⟨inf.size, e, [], false⟩) hp (fun e' he' => by cases he') (w' := w) ⟨rfl, rfl, rfl, Nat.le_refl _, fun _ _ _ => rfl⟩ (u := .slice none 0 0) (xs := []) (World.ownsRow_nil w 0 e inf.size) (fun x hx => by cases hx)
        (fun k j hk => absurd hk (by simp)) (fun g hg => by simp [Value.ownBlock] at hg) (by simp) hs
    · simp only [Res.sem, true_and] at hs
      exact ok_stay h hs (by simp) hx
  · simp only [Res.sem, true_and] at hs
    exact ok_stay h hs (by simp) hx

theorem pick_sound {c x y : AV} {uc ux uy : Value} (h : Inv w0 F M st.b st.r w) (hc : RepA w M st.r uc c) (hx : RepA w M st.r ux x) (hy : RepA w M st.r uy y) (hs : (pickR c x y st).sem K) :
    OpOk P w0 F M st.t st.r w (do pure (if ← asBool uc then ux else uy)) K := by
  unfold pickR at hs
  split at hs
  · rename_i b
    simp only [Res.sem, true_and] at hs
    have := hc.d_inv
    cases this
    cases b
    · exact ok_stay h hs (u := uy) (by simp [asBool]) (by simpa using hy)
    · exact ok_stay h hs (u := ux) (by simp [asBool]) (by simpa using hx)
  · exact hs.elim

theorem nilCheck_sound {ρ : Operand → Value} {o : Oper} {x : Operand} {xa : AV} (ho : o.op = .nilCheck x) (hx : RepA w M st.r (ρ x) xa) (hs : (nilCheckR xa st).sem K) :
    ∃ u, K xa st ∧ (execOp ρ o).run P w = .ok (.value u) w ∧ RepA w M st.r u xa := by
  obtain ⟨d, op, ty, p, a, g⟩ := o
  simp only at ho
  subst ho
  unfold nilCheckR at hs
  split at hs
  case h_3 =>
    split at hs
    · rename_i A hA
      obtain ⟨hm, hK⟩ := hs
      refine ⟨ρ x, hK, ?_, hx⟩
      generalize hu : ρ x = u at hx ⊢
      cases hx with
      | eptr _ _ _ _ _ h1 hv =>
        obtain ⟨A2, hA2, _, hv⟩ := hv
        rw [hA] at hA2
        injection hA2 with hA2
        subst hA2
        obtain ⟨g, _, rfl⟩ := hv hm
        unfold execOp
        dsimp only
        rw [hu]
        rfl
    · exact hs.elim
  case h_5 => exact hs.elim
  all_goals
    refine ⟨ρ x, hs.2, ?_, hx⟩
    generalize hu : ρ x = u at hx ⊢
    cases hx
    unfold execOp
    dsimp only
    rw [hu]
    rfl

theorem extract_sound {x : AV} {u : Value} {i : Nat} (h : Inv w0 F M st.b st.r w) (hx : RepA w M st.r u x) (hs : (extractR x i st).sem K) : OpOk P w0 F M st.t st.r w (Instr.extract u i) K := by
  unfold extractR at hs
  split at hs
  · rename_i cs
    split at hs
    · rename_i c hc
      simp only [Res.sem, true_and] at hs
      cases hx with
      | tup vs _ hsz hr =>
        have hi : i < cs.length := (List.getElem?_eq_some_iff.1 hc).1
        have hi' : i < vs.size := by omega
        have e : vs.getD i undef = vs[i] := by simp [Array.getD, hi']
        have e2 : cs.getD i .undef = c := by simp [List.getD, hc]
        refine ok_stay h hs (u := vs[i]) (by simp [Instr.extract, hi']) ?_
        rw [← e2, ← e]
        exact hr i hi
    · exact hs.elim
  · exact hs.elim

theorem mkIf_sound {t : TypeId} {x : AV} {u : Value} (h : Inv w0 F M st.b st.r w) (hx : RepA w M st.r u x) (hs : (mkIfR P t x st).sem K) : OpOk P w0 F M st.t st.r w (Instr.makeInterface t u) K := by
  unfold mkIfR at hs
  split at hs
  · exact hs.elim
  · rename_i hk
    have hrun : (Instr.makeInterface t u).run P w = .ok (.iface t u) w := by
      cases hu : P.underlying t with
      | none => simp [kd?, hu] at hk
      | some d => cases d <;> first | (simp [kd?, hu] at hk; done) | simp [Instr.makeInterface, run_underlying hu]
    split at hs <;> simp only [Res.sem, true_and] at hs
    · exact ok_stay h hs hrun (.d _ _ (.iface _ _ _ hx.d_inv))
    · exact ok_stay h hs hrun (.iface _ _ _ hx)

theorem field_sound {t : TypeId} {f : Nat} {x : AV} {u : Value} (h : Inv w0 F M st.b st.r w) (hx : RepA w M st.r u x) (hs : (fieldR P t x f st).sem K) : OpOk P w0 F M st.t st.r w (Instr.field t u f) K := by
  unfold fieldR at hs
  split at hs
  · rename_i o ft hf
    obtain ⟨fs, fd, i, hu, hfd, rfl, rfl, hi, hz⟩ := fo_spec hf
    split at hs
    · rename_i g n hty
      obtain ⟨i', hi', hsz, hg1, hg⟩ := ty_info hty
      rw [hi] at hi'
      injection hi' with hi'
      subst hi'
      simp only [Res.sem] at hs
      obtain ⟨⟨hl, hone⟩, hK⟩ := hs
      -- the value is a struct
      have hagg : ∃ vs, u = .agg vs ∧ CellsOk w M st.r vs (cellsA x) := by
        cases x with
        | d x =>
          cases x with
          | agg cs =>
            have := hx.d_inv
            cases this with
            | agg vs _ hs' h1 hr =>
              exact ⟨vs, rfl, by simpa [cellsA] using hs', fun j hj => h1 j (by simpa [cellsA] using hj), fun j hj => by
                simp only [cellsA, List.length_map] at hj
                rw [cellsA, getD_map_d _ _ hj]
                exact .d _ _ (hr j hj)⟩
          | _ => simp [aggA] at hone
        | agg cs =>
          cases hx with
          | agg vs _ hs' h1 hr => exact ⟨vs, rfl, hs', h1, hr⟩
        | _ => simp [aggA] at hone
      obtain ⟨vs, rfl, hc⟩ := hagg
      have hsub := hc.sub fd.offset n hl
      refine ok_stay h hK (u := mkVal g (vs.extract fd.offset (fd.offset + n))) ?_ ?_
      · subst hsz
        have := run_part (w := w) hi hg hg1 vs fd.offset (by rw [hc.size]; exact hl)
        simp only [Instr.field, Sem.run_bind, run_underlying hu, Result.andThen_ok, hfd, asAgg, Sem.run_pure]
        exact this
      · have e : vs.extract fd.offset (fd.offset + n) = ((vs.toList.drop fd.offset).take n).toArray := by
          apply Array.ext'
          simp [List.drop_take]
        rw [e]
        exact mkV_rep hsub (fun e => by rw [len_sub _ _ _ hl]; exact hg1 e)
    · exact hs.elim
  · exact hs.elim

/-! ### arithmetic -/
theorem int_sound {op : BinOp} {t : TypeId} {x y : Operand} {k k' : IntKind} {a b : Int} (h : Inv w0 F M st.b st.r w) (hs : (intR op k a k' b st).sem K) :
    OpOk P w0 F M st.t st.r w (do eqGuard op t x y (.int k a) (.int k' b); binOp op t (.int k a) (.int k' b)) K := by
  have hg : (eqGuard op t x y (.int k a) (.int k' b)).run P w = .ok () w := by cases op <;> simp [eqGuard]
  have fin : ∀ u v, K v st → (binOp op t (.int k a) (.int k' b)).run P w = .ok u w → RepA w M st.r u v → OpOk P w0 F M st.t st.r w (do eqGuard op t x y (.int k a) (.int k' b); binOp op t (.int k a) (.int k' b)) K :=
    fun u v hK hr hv => ok_stay h hK (by simp only [Sem.run_bind, hg, Result.andThen_ok]; exact hr) hv
  have hne : ∀ (op : BinOp), op ≠ .shl → op ≠ .shr → k = k' → binOp op t (.int k a) (.int k' b) = (match op with
      | .add | .sub | .mul => Op.intArith op k a b
      | .quo | .rem => Op.intDiv op k a b
      | .and | .or | .xor | .andNot => Op.intBits op k a b
      | _ => Op.intCmp op a b) := by
    intro op h1 h2 h3
    subst h3
    cases op <;> first | exact absurd rfl h1 | exact absurd rfl h2 | simp [binOp]
  unfold intR at hs
  split at hs <;> simp only [Res.sem] at hs <;> obtain ⟨hp, hK⟩ := hs
  · exact fin (.int k (k.wrap (a + b))) _ hK (by rw [hne _ (by simp) (by simp) hp]; rfl) (.d _ _ (.int _ _))
  · exact fin (.int k (k.wrap (a - b))) _ hK (by rw [hne _ (by simp) (by simp) hp]; rfl) (.d _ _ (.int _ _))
  · exact fin (.int k (k.wrap (a * b))) _ hK (by rw [hne _ (by simp) (by simp) hp]; rfl) (.d _ _ (.int _ _))
  · exact fin (.int k (k.wrap (a.tdiv b))) _ hK (by rw [hne _ (by simp) (by simp) hp.1]; simp [Op.intDiv, hp.2]) (.d _ _ (.int _ _))
  · exact fin (.int k (a.tmod b)) _ hK (by rw [hne _ (by simp) (by simp) hp.1]; simp [Op.intDiv, hp.2]) (.d _ _ (.int _ _))
  · exact fin (.int k (bitsI .and k a b)) _ hK (by rw [hne _ (by simp) (by simp) hp]; rfl) (.d _ _ (.int _ _))
  · exact fin (.int k (bitsI .or k a b)) _ hK (by rw [hne _ (by simp) (by simp) hp]; rfl) (.d _ _ (.int _ _))
  · exact fin (.int k (bitsI .xor k a b)) _ hK (by rw [hne _ (by simp) (by simp) hp]; rfl) (.d _ _ (.int _ _))
  · exact fin (.int k (bitsI .andNot k a b)) _ hK (by rw [hne _ (by simp) (by simp) hp]; rfl) (.d _ _ (.int _ _))
  · have hb : ¬ b < 0 := by omega
    exact fin (.int k (k.wrap (a * 2 ^ (min b.toNat k.bits)))) _ hK (by show (Op.shift .shl k a k' b).run P w = _; simp [Op.shift, hb]) (.d _ _ (.int _ _))
  · have hb : ¬ b < 0 := by omega
    exact fin (.int k (a.fdiv (2 ^ (min b.toNat k.bits)))) _ hK (by show (Op.shift .shr k a k' b).run P w = _; simp [Op.shift, hb]) (.d _ _ (.int _ _))
  · exact fin (.bool (decide (a = b))) _ hK (by rw [hne _ (by simp) (by simp) hp]; simp [Op.intCmp, beq_dec]) (.d _ _ (.bool _))
  · exact fin (.bool (decide (a ≠ b))) _ hK (by rw [hne _ (by simp) (by simp) hp]; simp [Op.intCmp, bne, beq_dec]) (.d _ _ (.bool _))
  · exact fin (.bool (decide (a < b))) _ hK (by rw [hne _ (by simp) (by simp) hp]; rfl) (.d _ _ (.bool _))
  · exact fin (.bool (decide (a ≤ b))) _ hK (by rw [hne _ (by simp) (by simp) hp]; rfl) (.d _ _ (.bool _))
  · exact fin (.bool (decide (b < a))) _ hK (by rw [hne _ (by simp) (by simp) hp]; rfl) (.d _ _ (.bool _))
  · exact fin (.bool (decide (b ≤ a))) _ hK (by rw [hne _ (by simp) (by simp) hp]; rfl) (.d _ _ (.bool _))

theorem str_rep {r : List Arr} (s : ByteArray) {l : List UInt8} (e : s.data.toList = l) : RepA w M r (.string s) (.d (.str l)) := by
  subst e
  exact .d _ _ (.str s)

theorem str_sound {op : BinOp} {t : TypeId} {x y : Operand} {a b : ByteArray} (h : Inv w0 F M st.b st.r w) (hs : (strR op a.data.toList b.data.toList st).sem K) :
    OpOk P w0 F M st.t st.r w (do eqGuard op t x y (.string a) (.string b); binOp op t (.string a) (.string b)) K := by
  have hg : (eqGuard op t x y (.string a) (.string b)).run P w = .ok () w := by cases op <;> simp [eqGuard]
  have fin : ∀ u v, K v st → (binOp op t (.string a) (.string b)).run P w = .ok u w → RepA w M st.r u v → OpOk P w0 F M st.t st.r w (do eqGuard op t x y (.string a) (.string b); binOp op t (.string a) (.string b)) K :=
    fun u v hK hr hv => ok_stay h hK (by simp only [Sem.run_bind, hg, Result.andThen_ok]; exact hr) hv
  have ea : a.toList = a.data.toList := ByteArray.toList_eq a
  have eb : b.toList = b.data.toList := ByteArray.toList_eq b
  have sa : a.data.toList.length = a.size := by simp
  have sb : b.data.toList.length = b.size := by simp
  unfold strR at hs
  split at hs <;> simp only [Res.sem] at hs
  · obtain ⟨hp, hK⟩ := hs
    refine fin (.string (a ++ b)) _ hK ?_ (str_rep _ (by simp [ByteArray.data_append]))
    have : ¬ (IntKind.i64.max < ((a.size : Int) + (b.size : Int))) := by
      simp [IntKind.max, IntKind.signed, IntKind.bits]
      omega
    simp [binOp, Op.stringOp, this]
    omega
  · exact fin (.bool (decide (a.data.toList = b.data.toList))) _ hs.2 (by simp only [binOp, Op.stringOp, ea, eb, beq_dec]; simp) (.d _ _ (.bool _))
  · exact fin (.bool (decide (a.data.toList ≠ b.data.toList))) _ hs.2 (by simp only [binOp, Op.stringOp, ea, eb, beq_dec]; simp) (.d _ _ (.bool _))
  · exact fin (.bool (Op.bytesLess a.data.toList b.data.toList)) _ hs.2 (by simp only [binOp, Op.stringOp, ea, eb, beq_dec]; simp) (.d _ _ (.bool _))
  · exact fin (.bool (Op.bytesLess a.data.toList b.data.toList || decide (a.data.toList = b.data.toList))) _ hs.2 (by simp only [binOp, Op.stringOp, ea, eb, beq_dec]; simp) (.d _ _ (.bool _))
  · exact fin (.bool (!(Op.bytesLess a.data.toList b.data.toList || decide (a.data.toList = b.data.toList)))) _ hs.2 (by simp only [binOp, Op.stringOp, ea, eb, beq_dec]; simp) (.d _ _ (.bool _))
  · exact fin (.bool (!Op.bytesLess a.data.toList b.data.toList)) _ hs.2 (by simp only [binOp, Op.stringOp, ea, eb, beq_dec]; simp) (.d _ _ (.bool _))

theorem un_sound {op : UnOp} {x : AV} {u : Value} (h : Inv w0 F M st.b st.r w) (hx : RepA w M st.r u x) (hs : (unR op x st).sem K) : OpOk P w0 F M st.t st.r w (Op.unary op u) K := by
  unfold unR at hs
  split at hs <;> simp only [Res.sem, true_and] at hs
  · have := hx.d_inv
    cases this
    exact ok_stay h hs (u := .bool _) (by simp [Op.unary]) (.d _ _ (.bool _))
  · have := hx.d_inv
    cases this
    exact ok_stay h hs (u := .int _ _) (by simp [Op.unary, Op.intArith]) (.d _ _ (.int _ _))

theorem kd_iface {t : TypeId} (h : kd? P t = 3) : ∃ ms, P.underlying t = some (.interface ms) := by
  cases hu : P.underlying t with
  | none => simp [kd?, hu] at h
  | some d =>
    cases d with
    | interface ms => exact ⟨ms, rfl⟩
    | int k => simp only [kd?, hu] at h; cases k <;> cases h
    | struct fs => simp only [kd?, hu] at h; split at h <;> cases h
    | _ => simp [kd?, hu] at h
theorem kd_bool {t : TypeId} (h : kd? P t = 1) : P.underlying t = some .bool := by
  cases hu : P.underlying t with
  | none => simp [kd?, hu] at h
  | some d =>
    cases d with
    | bool => rfl
    | int k => simp only [kd?, hu] at h; cases k <;> cases h
    | struct fs => simp only [kd?, hu] at h; split at h <;> cases h
    | _ => simp [kd?, hu] at h
theorem kd_string {t : TypeId} (h : kd? P t = 0) : P.underlying t = some .string := by
  cases hu : P.underlying t with
  | none => simp [kd?, hu] at h
  | some d =>
    cases d with
    | string => rfl
    | int k => simp only [kd?, hu] at h; cases k <;> cases h
    | struct fs => simp only [kd?, hu] at h; split at h <;> cases h
    | _ => simp [kd?, hu] at h
theorem kd_slice {t : TypeId} (h : kd? P t = 6) : ∃ e, P.underlying t = some (.slice e) := by
  cases hu : P.underlying t with
  | none => simp [kd?, hu] at h
  | some d =>
    cases d with
    | slice e => exact ⟨e, rfl⟩
    | int k => simp only [kd?, hu] at h; cases k <;> cases h
    | struct fs => simp only [kd?, hu] at h; split at h <;> cases h
    | _ => simp [kd?, hu] at h
theorem kd_struct {t : TypeId} (h : kd? P t = 7) : ∃ fs, P.underlying t = some (.struct fs) := by
  cases hu : P.underlying t with
  | none => simp [kd?, hu] at h
  | some d =>
    cases d with
    | struct fs => exact ⟨fs, rfl⟩
    | int k => simp only [kd?, hu] at h; cases k <;> cases h
    | _ => simp [kd?, hu] at h
theorem kd_int {t : TypeId} {k : IntKind} (h : ik (kd? P t) = some k) : P.underlying t = some (.int k) := by
  cases hu : P.underlying t with
  | none => simp [kd?, hu, ik] at h
  | some d =>
    cases d with
    | int k' => simp only [kd?, hu] at h; cases k' <;> simp [ik] at h <;> subst h <;> rfl
    | struct fs => simp only [kd?, hu] at h; split at h <;> simp [ik] at h
    | _ => simp [kd?, hu, ik] at h

theorem eq_sound {neg : Bool} {t : TypeId} {x y : Operand} {u v : Value} {a b : D} (h : Inv w0 F M st.b st.r w) (hx : Rep w (Okc M st.r) u a) (hy : Rep w (Okc M st.r) v b) (hs : (eqR P neg (isC x || isC y) t a b st).sem K) :
    OpOk P w0 F M st.t st.r w (do eqGuard (if neg then .neq else .eql) t x y u v; binOp (if neg then .neq else .eql) t u v) K := by
  have fin : ∀ (c : Bool), K (.d (.bool (c != neg))) st → (eqGuard (if neg then .neq else .eql) t x y u v).run P w = .ok () w → (Op.equal t u v).run P w = .ok c w → (∀ k n, u ≠ .int k n) → (∀ s, u ≠ .string s) → (∀ k z, u ≠ .float k z) → (∀ k z z', u ≠ .complex k z z') →
      OpOk P w0 F M st.t st.r w (do eqGuard (if neg then .neq else .eql) t x y u v; binOp (if neg then .neq else .eql) t u v) K := by
    intro c hK hg he h1 h2 h3 h4
    have hb : (binOp (if neg then .neq else .eql) t u v).run P w = .ok (.bool (c != neg)) w := by
      cases neg
      · have e : binOp .eql t u v = (do pure (.bool (← Op.equal t u v))) := by
          cases u <;> first | rfl | exact absurd rfl (h1 _ _) | exact absurd rfl (h2 _) | exact absurd rfl (h3 _ _) | exact absurd rfl (h4 _ _ _)
        simp [e, he]
      · have e : binOp .neq t u v = (do pure (.bool (!(← Op.equal t u v)))) := by
          cases u <;> first | rfl | exact absurd rfl (h1 _ _) | exact absurd rfl (h2 _) | exact absurd rfl (h3 _ _) | exact absurd rfl (h4 _ _ _)
        simp [e, he]
    exact ok_stay h hK (by simp only [Sem.run_bind, hg, Result.andThen_ok]; exact hb) (.d _ _ (.bool _))
  unfold eqR at hs
  split at hs
  · split at hs
    · rename_i hk
      simp only [Res.sem, true_and] at hs
      cases hx; cases hy
      refine fin _ hs (by cases neg <;> simp [eqGuard]) (run_equalIn_bool' w 9999 t _ _ (kd_bool hk)) (by simp) (by simp) (by simp) (by simp)
    · exact hs.elim
  · split at hs
    · rename_i hkc
      obtain ⟨hk, hc⟩ := hkc
      obtain ⟨ms, hu⟩ := kd_iface hk
      simp only [Res.sem, true_and] at hs
      cases hx; cases hy
      refine fin true (by simpa using hs) (by cases neg <;> cases x <;> cases y <;> simp [eqGuard, isC] at hc ⊢) (by show (Op.equalIn (9999 + 1) t _ _).run P w = _; rw [Op.equalIn]; simp [run_underlying hu]) (by simp) (by simp) (by simp) (by simp)
    · exact hs.elim
  · split at hs
    · rename_i hk
      obtain ⟨ms, hu⟩ := kd_iface hk
      simp only [Res.sem, true_and] at hs
      cases hx; cases hy
      refine fin false (by simpa using hs) (by cases neg <;> simp [eqGuard]) (by show (Op.equalIn (9999 + 1) t _ _).run P w = _; rw [Op.equalIn]; simp [run_underlying hu]) (by simp) (by simp) (by simp) (by simp)
    · exact hs.elim
  · split at hs
    · rename_i hk
      obtain ⟨ms, hu⟩ := kd_iface hk
      simp only [Res.sem, true_and] at hs
      cases hx; cases hy
      refine fin false (by simpa using hs) (by cases neg <;> simp [eqGuard]) (by show (Op.equalIn (9999 + 1) t _ _).run P w = _; rw [Op.equalIn]; simp [run_underlying hu]) (by simp) (by simp) (by simp) (by simp)
    · exact hs.elim
  · split at hs
    · rename_i ks hks
      split at hs
      · rename_i hfit
        split at hs
        · rename_i c hc
          simp only [Res.sem, true_and] at hs
          unfold cellsT at hks
          split at hks
          · rename_i hd
            have hfit2 := hfit.2
            simp only [Bool.and_eq_true] at hfit2
            cases hx with
            | agg vs _ hsz h1 hr =>
              cases hy with
              | agg us _ hsz' h1' hr' =>
                obtain ⟨g, i, hty, hi, hg, hg1, hkl⟩ := cellK_size 20 t ks hks
                have hgt : g = true := by
                  obtain ⟨fs, hu⟩ := kd_struct hfit.1
                  have h1 := hg w
                  simp [isAgg, run_underlying hu] at h1
                  exact h1
                subst hgt
                refine fin c hs ?_ ?_ (by simp) (by simp) (by simp) (by simp)
                · exact run_eqGuard_agg w _ t x y vs us (cellK_guard 20 t ks hks _ hd)
                · exact eq_flat 20 t ks hks 10000 (by omega) true hg vs us _ _ c ⟨hsz, hr⟩ ⟨hsz', hr'⟩ hfit2.1 hfit2.2 hc
          · cases hks
        · exact hs.elim
      · exact hs.elim
    · exact hs.elim
  · exact hs.elim
end
end Go.PE
end
