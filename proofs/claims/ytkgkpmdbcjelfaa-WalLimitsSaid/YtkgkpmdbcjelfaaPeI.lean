/- The evaluator is right, 5: structs compared cell by cell (see PeA, PeD). -/
import Derived.Test.YtkgkpmdbcjelfaaPeH
import Derived.Laws.StructEq
set_option linter.unusedVariables false
set_option linter.unusedSimpArgs false
namespace Go.PE
open Go

section
variable {P : Program} {w : World} {ok : Addr → Prop}

theorem beq_dec {α : Type} [BEq α] [LawfulBEq α] [DecidableEq α] (a b : α) : (a == b) = decide (a = b) := by
  rw [Bool.eq_iff_iff]; simp

theorem catK_mem : ∀ {l : List (Option (List Nat))} {ks : List Nat}, catK l = some ks → ∀ o ∈ l, ∃ k, o = some k
  | [], _, _, o, h => by cases h
  | some a :: l, ks, h, o, ho => by
    simp only [catK, Option.map_eq_some_iff] at h
    obtain ⟨k2, h2, _⟩ := h
    rcases List.mem_cons.1 ho with rfl | ho
    · exact ⟨a, rfl⟩
    · exact catK_mem h2 o ho
  | none :: _, _, h, _, _ => by simp [catK] at h

theorem cellK_guard : ∀ (d : Nat) (t : TypeId) (ks : List Nat), cellK P d t = some ks → ∀ d', d ≤ d' → P.eqGuardType d' t = false
  | 0, _, _, h, _, _ => by simp [cellK] at h
  | d + 1, t, ks, h, d', hd => by
    obtain ⟨e, rfl⟩ : ∃ e, d' = e + 1 := ⟨d' - 1, by omega⟩
    unfold cellK at h
    unfold Program.eqGuardType
    split at h
    · rename_i hu; simp [hu]
    · rename_i hu; simp [hu]
    · rename_i hu; simp [hu]
    · rename_i fs _ hu
      split at h
      · rw [hu]
        simp only [Array.any_eq_false']
        intro f hf
        obtain ⟨k, hk⟩ := catK_mem h (cellK P d f.type) (List.mem_map.2 ⟨f, by simpa using hf, rfl⟩)
        rw [cellK_guard d f.type k hk e (by omega)]
        simp
      · cases h
    · cases h

theorem lay_ge : ∀ (fs : List Field) (k n : Nat), lay P k fs = some n → k ≤ n
  | [], k, n, h => by simp [lay] at h; omega
  | f :: fs, k, n, h => by
    simp only [lay] at h
    split at h
    · split at h
      · have := lay_ge fs _ n h; omega
      · cases h
    · cases h

theorem cellK_size : ∀ (d : Nat) (t : TypeId) (ks : List Nat), cellK P d t = some ks → ∃ g i, ty? P t = some (g, i.size) ∧ P.info? t = some i ∧ (∀ w : World, (isAgg t).run P w = .ok g w) ∧ (g = false → i.size = 1) ∧ ks.length = i.size
  | 0, _, _, h => by simp [cellK] at h
  | d + 1, t, ks, h => by
    unfold cellK at h
    split at h
    · rename_i i hi hu
      split at h
      · rename_i hs; injection h with h; subst h
        exact ⟨false, i, by simp [ty?, hi, hu, hs], hi, fun w => by simp [isAgg, run_underlying hu], fun _ => hs, by simp [hs]⟩
      · cases h
    · rename_i i hi hu
      split at h
      · rename_i hs; injection h with h; subst h
        exact ⟨false, i, by simp [ty?, hi, hu, hs], hi, fun w => by simp [isAgg, run_underlying hu], fun _ => hs, by simp [hs]⟩
      · cases h
    · rename_i i k hi hu
      split at h
      · rename_i hs; injection h with h; subst h
        exact ⟨false, i, by simp [ty?, hi, hu, hs], hi, fun w => by simp [isAgg, run_underlying hu], fun _ => hs, by simp [hs]⟩
      · cases h
    · rename_i i fs hi hu
      split at h
      · rename_i hc
        refine ⟨true, i, by simp [ty?, hi, hu], hi, fun w => by simp [isAgg, run_underlying hu], by simp, ?_⟩
        have key : ∀ (l : List Field) (k n : Nat) (ks : List Nat), lay P k l = some n → catK (l.map fun f => cellK P d f.type) = some ks → ks.length = n - k := by
          intro l
          induction l with
          | nil => intro k n ks h1 h2; simp [lay] at h1; simp [catK] at h2; subst h2; simp; omega
          | cons f l ih =>
            intro k n ks h1 h2
            simp only [lay] at h1
            split at h1
            · split at h1
              · rename_i j hj
                simp only [List.map_cons] at h2
                cases hk : cellK P d f.type with
                | none => simp [hk, catK] at h2
                | some k1 =>
                  rw [hk] at h2
                  simp only [catK, Option.map_eq_some_iff] at h2
                  obtain ⟨k2, h3, rfl⟩ := h2
                  obtain ⟨_, j', _, hj', _, _, hl⟩ := cellK_size d f.type k1 hk
                  rw [hj] at hj'
                  injection hj' with hj'
                  subst hj'
                  have h4 := ih _ _ _ h1 h3
                  have h5 := lay_ge l _ n h1
                  rw [List.length_append, hl, h4]
                  omega
              · cases h1
            · cases h1
        simpa using key _ _ _ _ hc.2.1 h
      · cases h
    · cases h

theorem eqL_append : ∀ {a b a' b' : List D} {c : Bool}, a.length = b.length → eqL (a ++ a') (b ++ b') = some c → ∃ c1 c2, eqL a b = some c1 ∧ eqL a' b' = some c2 ∧ c = (c1 && c2)
  | [], [], a', b', c, _, h => ⟨true, c, rfl, h, by simp⟩
  | [], _ :: _, _, _, _, h, _ => by simp at h
  | _ :: _, [], _, _, _, h, _ => by simp at h
  | x :: a, y :: b, a', b', c, hl, h => by
    simp only [List.cons_append, eqL] at h
    split at h
    · rename_i c0 c1 h0 h1
      obtain ⟨c2, c3, e2, e3, rfl⟩ := eqL_append (by simpa using hl) h1
      injection h with h
      exact ⟨c0 && c2, c3, by simp [eqL, h0, e2], e3, by rw [← h, Bool.and_assoc]⟩
    · cases h

theorem fits_append : ∀ {k k' : List Nat} {a a' : List D}, k.length = a.length → fits (k ++ k') (a ++ a') = true → fits k a = true ∧ fits k' a' = true
  | [], k', [], a', _, h => ⟨rfl, h⟩
  | [], _, _ :: _, _, h, _ => by simp at h
  | _ :: _, _, [], _, h, _ => by simp at h
  | n :: k, k', x :: a, a', hl, h => by
    simp only [List.cons_append, fits, Bool.and_eq_true] at h ⊢
    obtain ⟨h1, h2⟩ := fits_append (by simpa using hl) h.2
    exact ⟨⟨h.1, h1⟩, h2⟩

theorem fits_len : ∀ {k : List Nat} {a : List D}, fits k a = true → a.length = k.length
  | [], [], _ => rfl
  | [], _ :: _, h => by simp [fits] at h
  | _ :: _, [], h => by simp [fits] at h
  | n :: k, x :: a, h => by
    simp only [fits, Bool.and_eq_true] at h
    simp [fits_len h.2]
theorem fits_one {n : Nat} {a : List D} (h : fits [n] a = true) : ∃ x, a = [x] ∧ fit1 n x = true := by
  have hl := fits_len h
  match a, hl with
  | [x], _ => exact ⟨x, rfl, by simpa [fits] using h⟩
theorem fit_bool {x : D} (h : fit1 1 x = true) : ∃ b, x = .bool b := by cases x <;> simp [fit1] at h; exact ⟨_, rfl⟩
theorem fit_str {x : D} (h : fit1 0 x = true) : ∃ b, x = .str b := by cases x <;> simp [fit1] at h; exact ⟨_, rfl⟩
theorem fit_int {x : D} (h : fit1 2 x = true) : ∃ k n, x = .int k n := by cases x <;> simp [fit1] at h; exact ⟨_, _, rfl⟩

def CellsD (w : World) (ok : Addr → Prop) (xs : Array Value) (as : List D) : Prop := xs.size = as.length ∧ ∀ j, j < as.length → Rep w ok (xs.getD j undef) (as.getD j .nilI)

theorem CellsD.sub {xs : Array Value} {as : List D} (h : CellsD w ok xs as) (o n : Nat) (hn : o + n ≤ as.length) : CellsD w ok (xs.extract o (o + n)) ((as.drop o).take n) := by
  have hs := h.1
  refine ⟨by simp; omega, fun j hj => ?_⟩
  rw [len_sub _ _ _ hn] at hj
  rw [getD_sub _ _ _ _ _ hj]
  have e : (xs.extract o (o + n)).getD j undef = xs.getD (o + j) undef := by
    simp only [Array.getD, Array.size_extract]
    rw [dif_pos (by omega), dif_pos (by omega)]
    simp
  rw [e]
  exact h.2 _ (by omega)

theorem run_part {t : TypeId} {g : Bool} {i : TypeInfo} (hi : P.info? t = some i) (hg : ∀ w : World, (isAgg t).run P w = .ok g w) (h1 : g = false → i.size = 1) (xs : Array Value) (o : Nat) (ho : o + i.size ≤ xs.size) :
    (part t xs o).run P w = .ok (mkVal g (xs.extract o (o + i.size))) w := by
  unfold part
  cases g with
  | true => simp [hg, sizeOf, typeInfo, hi, mkVal]
  | false =>
    have h2 := h1 rfl
    have h3 : o < xs.size := by omega
    have e : (xs.extract o (o + i.size)).getD 0 undef = xs[o] := by
      simp only [Array.getD, Array.size_extract]
      rw [dif_pos (by omega)]
      simp
    simp [hg, h3, mkVal, e]

theorem eq_flat : ∀ (d : Nat) (t : TypeId) (ks : List Nat), cellK P d t = some ks → ∀ d', d ≤ d' → ∀ (g : Bool), (∀ w : World, (isAgg t).run P w = .ok g w) → ∀ (xs ys : Array Value) (as bs : List D) (c : Bool),
    CellsD w ok xs as → CellsD w ok ys bs → fits ks as = true → fits ks bs = true → eqL as bs = some c → (Op.equalIn d' t (mkVal g xs) (mkVal g ys)).run P w = .ok c w
  | 0, _, _, h, _, _, _, _, _, _, _, _, _, _, _, _, _, _ => by simp [cellK] at h
  | d + 1, t, ks, h, d', hd, g, hg, xs, ys, as, bs, c, hx, hy, fx, fy, he => by
    obtain ⟨e, rfl⟩ : ∃ e, d' = e + 1 := ⟨d' - 1, by omega⟩
    have h0 := h
    unfold cellK at h
    have hgw : ∀ g', (isAgg t).run P w = .ok g' w → g = g' := fun g' h' => by
      have := hg w
      rw [h'] at this
      injection this with this
      exact this.symm
    have one : ∀ {zs : Array Value} {x : D}, CellsD w ok zs [x] → Rep w ok (zs.getD 0 undef) x := fun hz => hz.2 0 (by simp)
    split at h
    · rename_i i hi hu
      split at h
      · injection h with h; subst h
        obtain rfl := hgw false (by simp [isAgg, run_underlying hu])
        obtain ⟨_, rfl, f1⟩ := fits_one fx
        obtain ⟨_, rfl, f2⟩ := fits_one fy
        obtain ⟨a, rfl⟩ := fit_bool f1
        obtain ⟨b, rfl⟩ := fit_bool f2
        · have e1 := one hx
          have e2 := one hy
          show (Op.equalIn (e + 1) t (xs.getD 0 undef) (ys.getD 0 undef)).run P w = _
          generalize xs.getD 0 undef = u at e1 ⊢
          generalize ys.getD 0 undef = v at e2 ⊢
          cases e1; cases e2
          rw [run_equalIn_bool' w e t a b hu]
          simp [eqL, eqD] at he
          rw [he]
      · cases h
    · rename_i i hi hu
      split at h
      · injection h with h; subst h
        obtain rfl := hgw false (by simp [isAgg, run_underlying hu])
        obtain ⟨_, rfl, f1⟩ := fits_one fx
        obtain ⟨_, rfl, f2⟩ := fits_one fy
        obtain ⟨a, rfl⟩ := fit_str f1
        obtain ⟨b, rfl⟩ := fit_str f2
        · have e1 := one hx
          have e2 := one hy
          show (Op.equalIn (e + 1) t (xs.getD 0 undef) (ys.getD 0 undef)).run P w = _
          generalize xs.getD 0 undef = u at e1 ⊢
          generalize ys.getD 0 undef = v at e2 ⊢
          cases e1; cases e2
          rw [run_equalIn_string w e t _ _ hu]
          simp only [eqL, eqD, Bool.and_true, Option.some.injEq] at he
          rw [← he, ByteArray.toList_eq, ByteArray.toList_eq, beq_dec]
      · cases h
    · rename_i i k hi hu
      split at h
      · injection h with h; subst h
        obtain rfl := hgw false (by simp [isAgg, run_underlying hu])
        obtain ⟨_, rfl, f1⟩ := fits_one fx
        obtain ⟨_, rfl, f2⟩ := fits_one fy
        obtain ⟨ka, a, rfl⟩ := fit_int f1
        obtain ⟨kb, b, rfl⟩ := fit_int f2
        · have e1 := one hx
          have e2 := one hy
          show (Op.equalIn (e + 1) t (xs.getD 0 undef) (ys.getD 0 undef)).run P w = _
          generalize xs.getD 0 undef = u at e1 ⊢
          generalize ys.getD 0 undef = v at e2 ⊢
          cases e1; cases e2
          simp only [eqL, eqD] at he
          by_cases hk : ka = kb
          · subst hk
            rw [run_equalIn_int w e t ka _ a b hu]
            simp at he
            rw [← he, beq_dec]
          · rw [if_neg hk] at he
            cases he
      · cases h
    · rename_i i fs hi hu
      split at h
      · rename_i hc
        obtain ⟨hst, hlay, hnm⟩ := hc
        obtain rfl := hgw true (by simp [isAgg, run_underlying hu])
        show (Op.equalIn (e + 1) t (.agg xs) (.agg ys)).run P w = _
        have hf : P.fieldsOf t = fs := by simp [Program.fieldsOf, hu]
        rw [run_equalIn_struct w e t xs ys (by rw [hf]; exact hu) hst, hf]
        have hal := fits_len fx
        have hbl := fits_len fy
        obtain ⟨_, i', _, hi', _, _, hkl⟩ := cellK_size (d + 1) t ks h0
        rw [hi] at hi'
        injection hi' with hi'
        subst hi'
        have key : ∀ (l : List Field) (k : Nat) (ks : List Nat) (c : Bool), lay P k l = some i.size → l.all (fun f => f.name != "_") = true → catK (l.map fun f => cellK P d f.type) = some ks →
            fits ks (as.drop k) = true → fits ks (bs.drop k) = true → eqL (as.drop k) (bs.drop k) = some c → (Op.eqFields e xs ys l).run P w = .ok c w := by
          intro l
          induction l with
          | nil =>
            intro k ks c h1 _ h2 h3 h4 h5
            simp [catK] at h2
            subst h2
            have e1 : as.drop k = [] := List.eq_nil_of_length_eq_zero (fits_len h3)
            have e2 : bs.drop k = [] := List.eq_nil_of_length_eq_zero (fits_len h4)
            rw [e1, e2] at h5
            simp [eqL] at h5
            subst h5
            simp [Op.eqFields]
          | cons f l ih =>
            intro k ks c h1 hn h2 h3 h4 h5
            simp only [List.all_cons, Bool.and_eq_true] at hn
            simp only [lay] at h1
            split at h1
            · rename_i hoff
              split at h1
              · rename_i j hj
                simp only [List.map_cons] at h2
                cases hk : cellK P d f.type with
                | none => simp [hk, catK] at h2
                | some k1 =>
                  rw [hk] at h2
                  simp only [catK, Option.map_eq_some_iff] at h2
                  obtain ⟨k2, h6, rfl⟩ := h2
                  obtain ⟨g', j', _, hj', hg', hg1, hl⟩ := cellK_size d f.type k1 hk
                  rw [hj] at hj'
                  injection hj' with hj'
                  subst hj'
                  have hge := lay_ge l _ _ h1
                  have sp : ∀ (zs : List D), zs.drop k = (zs.drop k).take j.size ++ zs.drop (k + j.size) := fun zs => by
                    rw [← List.drop_drop, List.take_append_drop]
                  have la : ((as.drop k).take j.size).length = j.size := len_sub _ _ _ (by omega)
                  have lb : ((bs.drop k).take j.size).length = j.size := len_sub _ _ _ (by omega)
                  rw [sp as] at h3 h5
                  rw [sp bs] at h4 h5
                  obtain ⟨f1, f2⟩ := fits_append (by rw [la, hl]) h3
                  obtain ⟨f3, f4⟩ := fits_append (by rw [lb, hl]) h4
                  obtain ⟨c1, c2, e1, e2, rfl⟩ := eqL_append (by rw [la, lb]) h5
                  have hpx := run_part (w := w) hj hg' hg1 xs k (by rw [hx.1]; omega)
                  have hpy := run_part (w := w) hj hg' hg1 ys k (by rw [hy.1]; omega)
                  have hq := eq_flat d f.type k1 hk e (by omega) g' hg' _ _ _ _ c1 (hx.sub k j.size (by omega)) (hy.sub k j.size (by omega)) f1 f3 e1
                  have hr := ih (k + j.size) k2 c2 h1 hn.2 h6 f2 f4 e2
                  have hne : f.name ≠ "_" := by simpa using hn.1
                  rw [Op.eqFields]
                  simp only [if_pos hne, hoff, Sem.run_bind, hpx, hpy, hq, Result.andThen_ok]
                  cases c1
                  · simp
                  · simpa using hr
              · cases h1
            · cases h1
        exact key fs.toList 0 ks c hlay hnm h fx fy he
      · cases h
    · cases h
end
end Go.PE
