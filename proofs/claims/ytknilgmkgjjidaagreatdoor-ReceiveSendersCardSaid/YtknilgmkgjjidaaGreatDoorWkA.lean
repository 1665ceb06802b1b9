/- WkA: what the laws need of it. -/
import Derived.Test.YtknilgmkgjjidaaGreatDoorPe3
import Derived.Test.YtknilgmkgjjidaaGreatDoorFacts
set_option linter.unusedVariables false
set_option linter.defProp false
set_option linter.all false
set_option linter.unusedSimpArgs false
set_option maxRecDepth 100000
set_option maxHeartbeats 4000000
namespace Go.PE
open Go Go.Proofs

structure Msg where
  kind : Int
  key : List UInt8
  value : List UInt8
  lo : List UInt8
  hi : List UInt8
  fr : List UInt8
  to : List UInt8
  n : Int
  deriving DecidableEq, Inhabited
def Msg.enc (m : Msg) : List D := [.int .i64 m.kind, .str m.key, .str m.value, .str m.lo, .str m.hi, .str m.fr, .str m.to, .int .i64 m.n]
def Msg.dec : List D → Option Msg
  | [.int .i64 k, .str key, .str value, .str lo, .str hi, .str fr, .str to, .int .i64 n] => some ⟨k, key, value, lo, hi, fr, to, n⟩
  | _ => none
theorem Msg.eqB (a b : Msg) : (decide (a.kind = b.kind) && (decide (a.key = b.key) && (decide (a.value = b.value) && (decide (a.lo = b.lo) && (decide (a.hi = b.hi) && (decide (a.fr = b.fr) && (decide (a.to = b.to) && decide (a.n = b.n)))))))) = decide (a = b) := by
  cases a; cases b
  simp only [Msg.mk.injEq]
  simp [Bool.decide_and]

structure Cod (α : Type) where
  enc : α → D
  dec : D → Option α
  de : ∀ x, dec (enc x) = some x
  ed : ∀ d x, dec d = some x → d = enc x
def decL {α : Type} (dec : List D → Option α) : List (List D) → Option (List α)
  | [] => some []
  | e :: es => match dec e, decL dec es with
    | some x, some l => some (x :: l)
    | _, _ => none
theorem decL_map {α : Type} {dec : List D → Option α} {enc : α → List D} (h : ∀ x, dec (enc x) = some x) (l : List α) : decL dec (l.map enc) = some l := by
  induction l with
  | nil => rfl
  | cons x l ih => simp [decL, h, ih]
theorem decL_inv {α : Type} {dec : List D → Option α} {enc : α → List D} (h : ∀ e x, dec e = some x → e = enc x) : ∀ {es : List (List D)} {l : List α}, decL dec es = some l → es = l.map enc
  | [], l, e => by
    injection e with e
    subst e
    rfl
  | x :: es, l, e => by
    simp only [decL] at e
    split at e
    · rename_i y l' hy hl
      injection e with e
      subst e
      rw [List.map_cons, ← decL_inv h hl, ← h _ _ hy]
    · cases e
/-- Lists of things of several cells. -/
def cList {α : Type} (enc : α → List D) (dec : List D → Option α) (h1 : ∀ x, dec (enc x) = some x) (h2 : ∀ e x, dec e = some x → e = enc x) : Cod (List α) where
  enc l := .list (l.map enc)
  dec d := match d with | .list es => decL dec es | _ => none
  de l := decL_map h1 l
  ed d l h := by
    split at h
    · rw [decL_inv h2 h]
    · cases h
/-- Things of several cells. -/
def cAgg {α : Type} (enc : α → List D) (dec : List D → Option α) (h1 : ∀ x, dec (enc x) = some x) (h2 : ∀ e x, dec e = some x → e = enc x) : Cod α where
  enc x := .agg (enc x)
  dec d := match d with | .agg cs => dec cs | _ => none
  de x := h1 x
  ed d x h := by
    split at h
    · rw [h2 _ _ h]
    · cases h
def oneC {α : Type} (c : Cod α) (x : α) : List D := [c.enc x]
def oneDec {α : Type} (c : Cod α) : List D → Option α
  | [d] => c.dec d
  | _ => none
theorem oneDec_ed {α : Type} (c : Cod α) (e : List D) (x : α) (h : oneDec c e = some x) : e = oneC c x := by
  unfold oneDec at h
  split at h
  · rw [c.ed _ _ h]; rfl
  · cases h
/-- Lists of things of one cell. -/
def cOnes {α : Type} (c : Cod α) : Cod (List α) := cList (oneC c) (oneDec c) c.de (oneDec_ed c)
def cI (k : IntKind) : Cod Int := ⟨.int k, fun d => match d with | .int k' n => if k' = k then some n else none | _ => none, fun x => by simp, fun d x h => by
  split at h
  · split at h
    · rename_i e
      injection h with h
      subst h e
      rfl
    · cases h
  · cases h⟩
def cB : Cod Bool := ⟨.bool, fun d => match d with | .bool n => some n | _ => none, fun x => rfl, fun d x h => by
  split at h
  · injection h with h
    subst h
    rfl
  · cases h⟩
def cS : Cod (List UInt8) := ⟨.str, fun d => match d with | .str n => some n | _ => none, fun x => rfl, fun d x h => by
  split at h
  · injection h with h
    subst h
    rfl
  · cases h⟩
/-- Anything. -/
def cD : Cod D := ⟨fun d => d, some, fun _ => rfl, fun _ _ h => by injection h⟩
def byteDec : List D → Option UInt8
  | [.int .u8 n] => if n = ((UInt8.ofNat n.toNat).toNat : Int) then some (UInt8.ofNat n.toNat) else none
  | _ => none
theorem byteDec_de (x : UInt8) : byteDec (byteCell x) = some x := by simp [byteDec, byteCell]
theorem byteDec_ed (e : List D) (x : UInt8) (h : byteDec e = some x) : e = byteCell x := by
  unfold byteDec at h
  split at h
  · rename_i n
    split at h
    · rename_i hn
      injection h with h
      subst h
      unfold byteCell
      rw [← hn]
    · cases h
  · cases h
def cBytes : Cod (List UInt8) := cList byteCell byteDec byteDec_de byteDec_ed
theorem Msg.dec_ed (e : List D) (x : Msg) (h : Msg.dec e = some x) : e = x.enc := by
  unfold Msg.dec at h
  split at h
  · injection h with h
    subst h
    rfl
  · cases h
def cMsg : Cod Msg := cAgg Msg.enc Msg.dec (fun _ => rfl) Msg.dec_ed
def cMsgs : Cod (List Msg) := cList Msg.enc Msg.dec (fun _ => rfl) Msg.dec_ed
def cMsgss : Cod (List (List Msg)) := cOnes cMsgs
def cBytess : Cod (List (List UInt8)) := cOnes cBytes
def cStrs : Cod (List (List UInt8)) := cOnes cS
theorem cBytes_enc (l : List UInt8) : cBytes.enc l = .list (l.map byteCell) := rfl
theorem cBytes_dec (l : List UInt8) : cBytes.dec (.list (l.map byteCell)) = some l := cBytes.de l
theorem cBytes_nil : cBytes.dec (.list []) = some [] := rfl
theorem cBytess_enc (l : List (List UInt8)) : cBytess.enc l = .list (l.map (oneC cBytes)) := rfl
theorem cBytess_dec (l : List (List UInt8)) : cBytess.dec (.list (l.map (oneC cBytes))) = some l := cBytess.de l
theorem cBytess_nil : cBytess.dec (.list []) = some [] := rfl
theorem cStrs_enc (l : List (List UInt8)) : cStrs.enc l = .list (l.map (oneC cS)) := rfl
theorem cStrs_dec (l : List (List UInt8)) : cStrs.dec (.list (l.map (oneC cS))) = some l := cStrs.de l
theorem cStrs_1 (a : List UInt8) : cStrs.dec (.list [[.str a]]) = some [a] := rfl
theorem cStrs_2 (a b : List UInt8) : cStrs.dec (.list [[.str a], [.str b]]) = some [a, b] := rfl
theorem cMsgs_enc (l : List Msg) : cMsgs.enc l = .list (l.map Msg.enc) := rfl
theorem cMsgs_dec (l : List Msg) : cMsgs.dec (.list (l.map Msg.enc)) = some l := cMsgs.de l
theorem cMsgs_nil : cMsgs.dec (.list []) = some [] := rfl
theorem cMsgss_enc (l : List (List Msg)) : cMsgss.enc l = .list (l.map (oneC cMsgs)) := rfl
theorem cMsgss_dec (l : List (List Msg)) : cMsgss.dec (.list (l.map (oneC cMsgs))) = some l := cMsgss.de l
theorem cMsgss_nil : cMsgss.dec (.list []) = some [] := rfl
theorem cMsg_enc (m : Msg) : cMsg.enc m = .agg m.enc := rfl
theorem cMsg_dec (m : Msg) : cMsg.dec (.agg m.enc) = some m := cMsg.de m
theorem cMsg_dec' (k : Int) (a b c d e f : List UInt8) (n : Int) : cMsg.dec (.agg [.int .i64 k, .str a, .str b, .str c, .str d, .str e, .str f, .int .i64 n]) = some ⟨k, a, b, c, d, e, f, n⟩ := rfl
theorem cI_enc (k : IntKind) (n : Int) : (cI k).enc n = .int k n := rfl
theorem cI_dec (k : IntKind) (n : Int) : (cI k).dec (.int k n) = some n := (cI k).de n
theorem cS_enc (s : List UInt8) : cS.enc s = .str s := rfl
theorem cS_dec (s : List UInt8) : cS.dec (.str s) = some s := rfl
theorem cB_enc (s : Bool) : cB.enc s = .bool s := rfl
theorem cB_dec (s : Bool) : cB.dec (.bool s) = some s := rfl
theorem cD_enc (s : D) : cD.enc s = s := rfl
theorem cD_dec (s : D) : cD.dec s = some s := rfl

def optD {α : Type} (x : Option α) (f : α → Prop × AV) : Prop × AV := match x with | some a => f a | none => (False, .undef)
theorem optD_some {α : Type} (a : α) (f : α → Prop × AV) : optD (some a) f = f a := rfl
def det1 {α : Type} (c : Cod α) (p : α → Prop) (f : α → AV) : Det := fun ds => match ds with | [x] => optD (c.dec x) fun a => (p a, f a) | _ => (False, .undef)
def det2 {α β : Type} (c : Cod α) (d : Cod β) (p : α → β → Prop) (f : α → β → AV) : Det := fun ds => match ds with | [x, y] => optD (c.dec x) fun a => optD (d.dec y) fun b => (p a b, f a b) | _ => (False, .undef)
def det3 {α β γ : Type} (c : Cod α) (d : Cod β) (e : Cod γ) (p : α → β → γ → Prop) (f : α → β → γ → AV) : Det := fun ds => match ds with
  | [x, y, z] => optD (c.dec x) fun a => optD (d.dec y) fun b => optD (e.dec z) fun g => (p a b g, f a b g)
  | _ => (False, .undef)
theorem det1_eq {α : Type} (c : Cod α) (p : α → Prop) (f : α → AV) (x : D) : det1 c p f [x] = optD (c.dec x) fun a => (p a, f a) := rfl
theorem det2_eq {α β : Type} (c : Cod α) (d : Cod β) (p : α → β → Prop) (f : α → β → AV) (x y : D) : det2 c d p f [x, y] = optD (c.dec x) fun a => optD (d.dec y) fun b => (p a b, f a b) := rfl
theorem det3_eq {α β γ : Type} (c : Cod α) (d : Cod β) (e : Cod γ) (p : α → β → γ → Prop) (f : α → β → γ → AV) (x y z : D) : det3 c d e p f [x, y, z] = optD (c.dec x) fun a => optD (d.dec y) fun b => optD (e.dec z) fun g => (p a b g, f a b g) := rfl
theorem det1_elim {α : Type} {c : Cod α} {p : α → Prop} {f : α → AV} {ds : List D} {K : Out → Prop} (h : (det1 c p f).spec ds K) : ∃ a, ds = [c.enc a] ∧ p a ∧ K (.ret (f a)) := by
  unfold Det.spec det1 at h
  split at h
  · rename_i x
    unfold optD at h
    split at h
    · rename_i a ha
      exact ⟨a, by rw [c.ed _ _ ha], h⟩
    · exact h.1.elim
  · exact h.1.elim
theorem det2_elim {α β : Type} {c : Cod α} {d : Cod β} {p : α → β → Prop} {f : α → β → AV} {ds : List D} {K : Out → Prop} (h : (det2 c d p f).spec ds K) : ∃ a b, ds = [c.enc a, d.enc b] ∧ p a b ∧ K (.ret (f a b)) := by
  unfold Det.spec det2 at h
  split at h
  · rename_i x y
    unfold optD at h
    split at h
    · rename_i a ha
      dsimp only at h
      split at h
      · rename_i b hb
        exact ⟨a, b, by rw [c.ed _ _ ha, d.ed _ _ hb], h⟩
      · exact h.1.elim
    · exact h.1.elim
  · exact h.1.elim
theorem det3_elim {α β γ : Type} {c : Cod α} {d : Cod β} {e : Cod γ} {p : α → β → γ → Prop} {f : α → β → γ → AV} {ds : List D} {K : Out → Prop} (h : (det3 c d e p f).spec ds K) : ∃ a b g, ds = [c.enc a, d.enc b, e.enc g] ∧ p a b g ∧ K (.ret (f a b g)) := by
  unfold Det.spec det3 at h
  split at h
  · rename_i x y z
    unfold optD at h
    split at h
    · rename_i a ha
      dsimp only at h
      split at h
      · rename_i b hb
        split at h
        · rename_i g hg
          exact ⟨a, b, g, by rw [c.ed _ _ ha, d.ed _ _ hb, e.ed _ _ hg], h⟩
        · exact h.1.elim
      · exact h.1.elim
    · exact h.1.elim
  · exact h.1.elim
/-- The rules of codecs and contracts. -/
def cBs := And.intro @cBytes_enc (And.intro @cBytes_dec (And.intro cBytes_nil (And.intro @cBytess_enc (And.intro @cBytess_dec (And.intro cBytess_nil (And.intro @cStrs_enc (And.intro @cStrs_dec (And.intro @cStrs_1 (And.intro @cStrs_2 (And.intro @cMsgs_enc (And.intro @cMsgs_dec (And.intro cMsgs_nil (And.intro @cMsgss_enc (And.intro @cMsgss_dec
  (And.intro cMsgss_nil (And.intro @cMsg_enc (And.intro @cMsg_dec (And.intro @cMsg_dec' (And.intro @cI_enc (And.intro @cI_dec (And.intro @cS_enc (And.intro @cS_dec (And.intro @cB_enc (And.intro @cB_dec (And.intro @cD_enc (And.intro @cD_dec (And.intro @optD_some (And.intro @det1_eq (And.intro @det2_eq @det3_eq)))))))))))))))))))))))))))))
theorem map_len_le {α : Type} {f : α → List D} {l : List α} {ds : List D} (h : lensOk (.list (l.map f) :: ds)) : l.length ≤ 9223372036854775807 := by
  have := (lensOk_cons_list _ _ h).1
  simpa using this
end Go.PE
