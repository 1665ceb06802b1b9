/- The evaluator is right, 8: append, make (see PeA, PeD). -/
import Derived.Test.YtkgkpmdbcjelfaaPeK
import Derived.Laws.MakeOwn
set_option linter.unusedVariables false
set_option linter.unusedSimpArgs false
namespace Go.PE
open Go

section
variable {P : Program} {w0 : World} {F : List Nat} {M : Mem} {st : St} {w : World} {K : AV → St → Prop}

/-- What is appended, as cells. -/
def SrcOk (P : Program) (w : World) (M : Mem) (r : List Arr) (n : Nat) (tx : TypeId) (u : Value) (news : List (List D)) : Prop :=
  ∃ vals, Src P n tx u news.length vals w ∧ (∀ e ∈ news, e.length = n) ∧ ∀ k j, k < news.length → j < n → Rep w (Okc M r) (vals.getD (k * n + j) undef) ((news.getD k []).getD j .nilI)

theorem list_src {ok : Addr → Prop} {u : Value} {es : List (List D)} (hr : Rep w ok u (.list es)) (n : Nat) (hn : ∀ e ∈ es, e.length = n) {tx : TypeId} (hk : ∃ e', P.underlying tx = some (.slice e')) :
    ∃ vals, Src P n tx u es.length vals w ∧ ∀ k j, k < es.length → j < n → Rep w ok (vals.getD (k * n + j) undef) ((es.getD k []).getD j .nilI) := by
  obtain ⟨e', hk⟩ := hk
  cases hr with
  | list A m c sz _ f hm hc hz ha h1 hrep =>
    subst hm
    rcases Nat.eq_zero_or_pos es.length with h0 | h0
    · have hnil : es = [] := List.eq_nil_of_length_eq_zero h0
      subst hnil
      refine ⟨[], ?_, fun k j hk => absurd hk (by simp)⟩
      cases A with
      | none => exact Src.ofNil (w := w) hk c
      | some a => exact Src.ofSlice (w := w) hk a 0 c [] (by simp) (fun j u h => by simp at h) (fun u hu => by cases hu)
    · have hsz : sz = n := by
        have e1 := hz 0 h0
        have e2 : es.getD 0 [] = es[0] := by simp [List.getD, h0]
        rw [e2, hn _ (List.getElem_mem h0)] at e1
        exact e1.symm
      subst hsz
      obtain ⟨a, rfl, hsp, hcell⟩ := ha h0
      have hlens : ∀ v ∈ (List.range es.length).map (fun i => (List.range sz).map (f i)), v.length = sz := fun v hv => by
        obtain ⟨i, _, rfl⟩ := List.mem_map.1 hv
        simp
      have hget : ∀ k j, k < es.length → j < sz → (((List.range es.length).map (fun i => (List.range sz).map (f i))).flatten).getD (k * sz + j) undef = f k j := fun k j hk' hj => by
        rw [getD_flat sz (by omega) _ k j undef hlens (by simpa using hk') hj]
        simp [List.getD, hk', hj]
      have hlen : (((List.range es.length).map (fun i => (List.range sz).map (f i))).flatten).length = es.length * sz := by
        rw [List.length_flatten]
        have : ((List.range es.length).map (fun i => (List.range sz).map (f i))).map List.length = List.replicate es.length sz := by
          apply List.ext_getElem
          · simp
          · intro i h1 h2; simp
        rw [this]; simp
      have hdec : ∀ q, q < es.length * sz → ∃ k j, k < es.length ∧ j < sz ∧ q = k * sz + j := fun q hq => by
        have hp : 0 < sz := by
          rcases Nat.eq_zero_or_pos sz with h | h
          · subst h; simp at hq
          · exact h
        exact ⟨q / sz, q % sz, Nat.div_lt_of_lt_mul (by rw [Nat.mul_comm]; exact hq), Nat.mod_lt _ hp, by rw [Nat.mul_comm]; exact (Nat.div_add_mod q sz).symm⟩
      refine ⟨_, Src.ofSlice (w := w) hk a es.length c _ hlen (fun q u hq => ?_) (fun u hu => ?_), fun k j hk' hj => by rw [hget k j hk' hj]; exact hrep k j hk' hj⟩
      · have hq' := (List.getElem?_eq_some_iff.1 hq).1
        rw [hlen] at hq'
        obtain ⟨k, j, hk', hj, rfl⟩ := hdec q hq'
        have e1 := hget k j hk' hj
        simp only [List.getD, hq, Option.getD_some] at e1
        rw [e1]
        exact (hcell k j hk' hj).1
      · obtain ⟨q, hq, rfl⟩ := List.getElem_of_mem hu
        have hq' := hq
        rw [hlen] at hq'
        obtain ⟨k, j, hk', hj, e⟩ := hdec q hq'
        have e1 := hget k j hk' hj
        rw [← e] at e1
        simp only [List.getD, List.getElem?_eq_getElem hq, Option.getD_some] at e1
        rw [e1]
        exact h1 k j hk' hj

theorem src_ok {tx : TypeId} {n : Nat} {y : AV} {u : Value} {p : Prop} {news : List (List D)} (h : Inv w0 F M st.b st.r w) (hy : RepA w M st.r u y) (hs : srcA P tx n y st = some (p, news)) (hp : p) : SrcOk P w M st.r n tx u news := by
  unfold srcA at hs
  split at hs
  · split at hs
    · rename_i hk
      obtain ⟨e', hk⟩ := kd_slice hk
      simp only [Option.some.injEq, Prod.mk.injEq] at hs
      obtain ⟨_, rfl⟩ := hs
      cases hy
      exact ⟨[], Src.ofNil (w := w) hk 0, (fun e he => by cases he), fun k j hk => absurd hk (by simp)⟩
    · cases hs
  · split at hs
    · rename_i hk
      simp only [Option.some.injEq, Prod.mk.injEq] at hs
      obtain ⟨rfl, rfl⟩ := hs
      obtain ⟨vals, h1, h2⟩ := list_src (P := P) hy.d_inv n hp (kd_slice hk)
      exact ⟨vals, h1, hp, h2⟩
    · cases hs
  · split at hs
    · rename_i hk
      obtain ⟨e', hk⟩ := kd_slice hk
      split at hs
      · rename_i id m _ A hA
        simp only [Option.some.injEq, Prod.mk.injEq] at hs
        obtain ⟨rfl, rfl⟩ := hs
        obtain ⟨hm, hn⟩ := hp
        cases hy with
        | arr _ _ _ h1 hv =>
          obtain ⟨A2, hA2, _, hv⟩ := hv
          rw [hA] at hA2
          injection hA2 with hA2
          subst hA2
          have e := hv hm
          obtain ⟨hz, he, xs, ho, hx1, hxr⟩ := h.row _ A hA
          subst hn
          refine ⟨xs, ?_, he, hxr⟩
          rw [e]
          rcases ho.2 with ⟨e1, e2⟩ | ⟨g, cap, cur, e1, _⟩
          · have hxs : xs = [] := List.eq_nil_of_length_eq_zero (by rw [ho.1, e2]; simp)
            rw [e1, hxs, e2]
            exact Src.ofNil (w := w) hk 0
          · rw [e1]
            exact Src.ofSlice (w := w) hk _ _ _ xs ho.1 (fun j v hj => ho.cells (by rw [e1]; rfl) j v hj) hx1
      · cases hs
    · cases hs
  · split at hs
    · rename_i hk
      have hu := kd_string hk
      simp only [Option.some.injEq, Prod.mk.injEq] at hs
      obtain ⟨rfl, rfl⟩ := hs
      subst hp
      have hr := hy.d_inv
      cases hr with
      | str s =>
        have hl : (s.data.toList.map byteCell).length = s.size := by simp
        refine ⟨byteCells s, by rw [hl]; exact Src.ofString (w := w) hu s, fun e he => ?_, fun k j hk hj => ?_⟩
        · obtain ⟨c, _, rfl⟩ := List.mem_map.1 he
          rfl
        · have hj0 : j = 0 := by omega
          subst hj0
          have hk' : k < s.data.toList.length := by simpa using hk
          have e1 : (byteCells s).getD (k * 1 + 0) undef = .int .u8 (s.data.toList[k].toNat : Int) := by
            simp only [byteCells, List.getD, Nat.mul_one, Nat.add_zero, List.getElem?_map, List.getElem?_eq_getElem hk', Option.map_some, Option.getD_some]
          have e2 : ((s.data.toList.map byteCell).getD k []).getD 0 .nilI = .int .u8 (s.data.toList[k].toNat : Int) := by
            have : (s.data.toList.map byteCell).getD k [] = byteCell s.data.toList[k] := by simp only [List.getD, List.getElem?_map, List.getElem?_eq_getElem hk', Option.map_some, Option.getD_some]
            rw [this]
            rfl
          rw [e1, e2]
          exact .int _ _
    · cases hs
  · cases hs

theorem append_sound {t tx ty : TypeId} {x y : AV} {u v : Value} (h : Inv w0 F M st.b st.r w) (hx : RepA w M st.r u x) (hy : RepA w M st.r v y) (hs : (appendR P t tx x y st).sem K) :
    OpOk P w0 F M st.t st.r w (Builtin.append_ #[t, tx] ty #[u, v]) K := by
  unfold appendR at hs
  split at hs
  · rename_i e n by_ hsl
    obtain ⟨inf, z, hu, hin, hz, hzs, hp, hb0, rfl, rfl⟩ := sl_spec hsl
    split at hs
    · rename_i p news hsrc
      split at hs
      · simp only [Res.sem] at hs
        obtain ⟨⟨hpp, hby⟩, hK⟩ := hs
        obtain ⟨vals, hS, hne, hrep⟩ := src_ok h hy hsrc hpp
        cases hx
        obtain ⟨v', w', hr, ho, hb, hm0⟩ := run_append_src (P := P) w t tx ty e inf z hu hin hz hzs hp (.slice none 0 0) 0 [] (World.ownsRow_nil w 0 e inf.size) v news.length vals hS hb0 (by simpa using hby)
        have hg : w.grownBy w' none := by
          rcases hb with ⟨_, hb⟩ | ⟨_, hb⟩ <;> exact hb
        have ho' : w'.ownsRow 0 e inf.size v' news.length vals := by simpa using ho
        refine newRow_ok h (A := ⟨inf.size, e, news, false⟩) hp hne hg ho' hS.one hrep (fun g hg => ?_) hr hK
        rcases hb with ⟨hb, _⟩ | ⟨hb, _⟩
        · rw [hb] at hg; simp [Value.ownBlock] at hg
        · rw [hb] at hg; injection hg with hg; omega
      · rename_i id m
        split at hs
        · rename_i A hA
          simp only [Res.sem] at hs
          obtain ⟨⟨hpp, hm, hsz, hety, hby⟩, hK⟩ := hs
          obtain ⟨vals, hS, hne, hrep⟩ := src_ok h hy hsrc hpp
          cases hx with
          | arr _ _ _ h1 hv =>
            obtain ⟨A2, hA2, _, hv⟩ := hv
            rw [hA] at hA2
            injection hA2 with hA2
            subst hA2
            have e := hv hm
            subst e
            obtain ⟨hzz, he, xs, ho, hx1, hxr⟩ := h.row _ A hA
            subst hety
            rw [← hsz] at hS hne hrep hp
            obtain ⟨v', w', hr, ho', hb, hm0⟩ := run_append_src (P := P) w t tx ty A.ety inf z hu hin hz hzs (by omega) (M.row id) A.es.length xs (by rw [← hsz]; exact ho) v news.length vals (by rw [← hsz]; exact hS) hb0 hby
            rw [← hsz] at ho'
            obtain ⟨hI, hc, hrw⟩ := h.append id A hA news v' xs vals ho hx1 hxr ho' hb hne hm0 hS.one hrep
            refine ⟨_, _, _, _, v', hK, hr, hI, hc, .arr _ _ _ ?_ ⟨_, set_at hA, Nat.le_refl _, fun _ => hrw.symm⟩, rfl⟩
            rcases ho'.2 with ⟨rfl, _⟩ | ⟨g, cap, cur, rfl, _⟩ <;> rfl
        · exact hs.elim
      · exact hs.elim
    · exact hs.elim
  · exact hs.elim

theorem Nat.mul_add_mod_of_lt' {k n j : Nat} (h : j < n) : (k * n + j) % n = j := by
  rw [Nat.mul_comm, Nat.mul_add_mod, Nat.mod_eq_of_lt h]

theorem const_toD {r : List Arr} {ok : Addr → Prop} (v : Value) {d : D} (h : toD r (constA v) = some d) : Rep w ok v d := by
  unfold constA at h
  split at h <;> simp [toD] at h <;> subst h
  · exact .int _ _
  · exact .bool _
  · exact .str _
  · exact .nilI
  · exact .list none 0 0 0 [] (fun _ _ => undef) rfl ⟨Nat.le_refl _, Nat.zero_le _⟩ (fun i hi => absurd hi (by omega)) (fun h => absurd h (by omega)) (fun i _ hi => absurd hi (by omega)) (fun i _ hi => absurd hi (by omega))
  · exact .raw _ trivial
  · exact .raw _ trivial
  · exact .raw _ trivial
theorem const_toDL {r : List Arr} {ok : Addr → Prop} : ∀ (l : List Value) {ds : List D}, toDL r (l.map constA) = some ds → ds.length = l.length ∧ ∀ i, i < l.length → Rep w ok (l.getD i undef) (ds.getD i .nilI)
  | [], ds, h => by simp [toDL] at h; subst h; exact ⟨rfl, fun i hi => absurd hi (by simp)⟩
  | v :: l, ds, h => by
    simp only [List.map_cons, toDL] at h
    split at h
    · rename_i d ds' h1 h2
      injection h with h
      subst h
      obtain ⟨hl, hr⟩ := const_toDL (ok := ok) l h2
      refine ⟨by simp [hl], fun i hi => ?_⟩
      cases i with
      | zero => exact const_toD v h1
      | succ i => exact hr i (by simpa using hi)
    · cases h

theorem mkSlice_sound {t : TypeId} {l c : AV} {u v : Value} (h : Inv w0 F M st.b st.r w) (hx : RepA w M st.r u l) (hy : RepA w M st.r v c) (hs : (mkSliceR P t l c st).sem K) : OpOk P w0 F M st.t st.r w (Instr.makeSlice t u v) K := by
  unfold mkSliceR at hs
  split at hs
  · rename_i e n by_ k a k' b hsl
    obtain ⟨inf, z, hu, hin, hz, hzs, hp, hb0, rfl, rfl⟩ := sl_spec hsl
    split at hs
    · rename_i zl hzl
      obtain ⟨i2, zv, hi2, hzv, rfl⟩ := zero_spec hzl
      rw [hin] at hi2
      injection hi2 with hi2
      subst hi2
      rw [hz] at hzv
      injection hzv with hzv
      subst hzv
      split at hs
      · rename_i ds hds
        simp only [Res.sem] at hs
        obtain ⟨⟨h0, h1, h2, h3⟩, hK⟩ := hs
        have e1 := hx.d_inv
        have e2 := hy.d_inv
        cases e1; cases e2
        obtain ⟨hdl0, hdr⟩ := const_toDL (w := w) (ok := Okc M st.r) z.cells.toList hds
        have hdl : ds.length = inf.size := by rw [hdl0]; simpa using hzs
        have hbl : b ≤ 140737488355328 := by
          have : (1 : Int) ≤ (inf.bytes : Int) := by omega
          have h4 : b * 1 ≤ b * (inf.bytes : Int) := Int.mul_le_mul_of_nonneg_left this (by omega)
          omega
        have hr := run_make (P := P) w t e inf z hu hin hz k k' a b h0 h1 (by rw [Int.mul_comm]; omega) (by omega)
        have hmg : ∀ q, q < b.toNat * inf.size → (madeCells z.cells (b.toNat * inf.size)).toList[q]? = some (z.cells.toList.getD (q % inf.size) undef) := fun q hq => by
          have hm : q % inf.size < z.cells.size := by rw [hzs]; exact Nat.mod_lt _ hp
          have hm' : q % z.cells.size < z.cells.size := by rw [hzs] at hm ⊢; exact hm
          simp only [madeCells, Array.getElem?_toList, Array.getElem?_map, Array.getElem?_range, if_pos hq, Option.map_some]
          rw [hzs]
          simp [Array.getElem!_eq_getD, Array.getD, List.getD, hm]
        have hab : a.toNat ≤ b.toNat := by omega
        have habm := Nat.mul_le_mul_right inf.size hab
        have hxl : ((madeCells z.cells (b.toNat * inf.size)).toList.take (a.toNat * inf.size)).length = a.toNat * inf.size := by
          rw [List.length_take, Array.length_toList, size_madeCells]; omega
        have hxg : ∀ q, q < a.toNat * inf.size → ((madeCells z.cells (b.toNat * inf.size)).toList.take (a.toNat * inf.size))[q]? = some (z.cells.toList.getD (q % inf.size) undef) := fun q hq => by
          rw [List.getElem?_take, if_pos hq, hmg q (by omega)]
        have hone : ∀ j, j < inf.size → (z.cells.toList.getD j undef).oneCell' = true := fun j hj => by
          have hj' : j < z.cells.toList.length := by simpa [hzs] using hj
          refine (hdr j hj').one ?_
          have e1 : ds.getD j .nilI = ds[j]'(by omega) := by
            have hj2 : j < ds.length := by omega
            simp [List.getD, hj2]
          rw [e1]
          exact List.all_eq_true.1 h3 _ (List.getElem_mem _)
        refine newRow_ok h (A := ⟨inf.size, e, List.replicate a.toNat ds, false⟩) hp (fun e' he' => by rw [(List.mem_replicate.1 he').2]; exact hdl) (World.grownBy_alloc w _ none)
          (u := .slice (some ⟨w.heap.size, 0, none⟩) a.toNat b.toNat) (xs := (madeCells z.cells (b.toNat * inf.size)).toList.take (a.toNat * inf.size)) ?_ (fun x hx => ?_) (fun k j hk hj => ?_) (fun g hg => by simp [Value.ownBlock] at hg; omega) hr (by simpa using hK)
        · simp only [List.length_replicate]
          refine ⟨hxl, .inr ⟨w.heap.size, b.toNat, _, rfl, Nat.zero_le _, heap_alloc_new w _, hab, by simp only [maxLen]; omega, size_madeCells _ _, rfl⟩⟩
        · obtain ⟨q, hq, rfl⟩ := List.getElem_of_mem hx
          have hq' := hq
          rw [hxl] at hq'
          have e1 := hxg q hq'
          rw [List.getElem?_eq_getElem hq] at e1
          injection e1 with e1
          rw [e1]
          exact hone _ (Nat.mod_lt _ hp)
        · have hk' : k < a.toNat := by simpa using hk
          have hj' : j < inf.size := hj
          have hq : k * inf.size + j < a.toNat * inf.size := by
            calc k * inf.size + j < k * inf.size + inf.size := Nat.add_lt_add_left hj' _
              _ = (k + 1) * inf.size := by rw [Nat.add_mul, Nat.one_mul]
              _ ≤ a.toNat * inf.size := Nat.mul_le_mul_right _ hk'
          have e1 : (List.take (a.toNat * inf.size) (madeCells z.cells (b.toNat * inf.size)).toList).getD (k * inf.size + j) undef = z.cells.toList.getD j undef := by
            have := hxg _ hq
            simp only [List.getD, this, Option.getD_some]
            rw [Nat.mul_add_mod_of_lt' hj']
          have e2 : (List.replicate a.toNat ds).getD k [] = ds := by simp [List.getD, hk']
          show Rep w _ ((List.take (a.toNat * inf.size) (madeCells z.cells (b.toNat * inf.size)).toList).getD (k * inf.size + j) undef) (((List.replicate a.toNat ds).getD k []).getD j .nilI)
          rw [e1, e2]
          exact hdr j (by simpa [hzs] using hj')
      · exact hs.elim
    · exact hs.elim
  · exact hs.elim
end
end Go.PE
