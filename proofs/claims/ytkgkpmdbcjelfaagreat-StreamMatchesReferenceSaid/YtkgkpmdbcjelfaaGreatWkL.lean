/- Logs read (package wal, law 24). -/
import Derived.Test.YtkgkpmdbcjelfaaGreatWkK
import Derived.Test.YtkgkpmdbcjelfaaGreatWkSameMsgs
set_option linter.unusedVariables false
set_option linter.defProp false
set_option linter.all false
set_option linter.unusedSimpArgs false
set_option maxRecDepth 10000
set_option maxHeartbeats 2000000
namespace Go.PE
open Go Go.Proofs

/-- What Parse gives. -/
structure Parsed where
  gen : Int
  seq : Int
  l : List Msg
  e : Int
  deriving DecidableEq
def Parsed.enc (p : Parsed) : List D := [.int .i64 p.gen, .int .i64 p.seq, .list (p.l.map Msg.enc), .int .i64 p.e]
def Parsed.dec : List D → Option Parsed
  | [.int .i64 g, .int .i64 s, .list es, .int .i64 e] => match decL Msg.dec es with
    | some l => some ⟨g, s, l, e⟩
    | none => none
  | _ => none
theorem Parsed.dec_de (p : Parsed) : Parsed.dec p.enc = some p := by
  simp only [Parsed.dec, Parsed.enc, decL_map (dec := Msg.dec) (enc := Msg.enc) (fun _ => rfl)]
theorem Parsed.dec_ed (e : List D) (p : Parsed) (h : Parsed.dec e = some p) : e = p.enc := by
  unfold Parsed.dec at h
  split at h
  · split at h
    · rename_i l hl
      injection h with h
      subst h
      rw [decL_inv Msg.dec_ed hl]
      rfl
    · cases h
  · cases h
def cParsed : Cod Parsed := cAgg Parsed.enc Parsed.dec Parsed.dec_de Parsed.dec_ed
theorem cParsed_enc (p : Parsed) : cParsed.enc p = .agg [.int .i64 p.gen, .int .i64 p.seq, .list (p.l.map Msg.enc), .int .i64 p.e] := rfl
theorem cParsed_dec (g s : Int) (l : List Msg) (e : Int) : cParsed.dec (.agg [.int .i64 g, .int .i64 s, .list (l.map Msg.enc), .int .i64 e]) = some ⟨g, s, l, e⟩ := Parsed.dec_de ⟨g, s, l, e⟩
theorem cParsed_dec0 (g s e : Int) : cParsed.dec (.agg [.int .i64 g, .int .i64 s, .list [], .int .i64 e]) = some ⟨g, s, [], e⟩ := Parsed.dec_de ⟨g, s, [], e⟩
theorem Parsed.eta (p : Parsed) : (⟨p.gen, p.seq, p.l, p.e⟩ : Parsed) = p := rfl
def walP (b : List UInt8) : Parsed := match walF b with
  | some (g, s, l) => ⟨g, s, l, 0⟩
  | none => ⟨0, 0, [], 240⟩
theorem walA_eq (b : List UInt8) : walA (walF b) = .tup [.d (.int .i64 (walP b).gen), .d (.int .i64 (walP b).seq), .d (.list ((walP b).l.map Msg.enc)), .d (.int .i64 (walP b).e)] := by
  unfold walA walP
  cases walF b <;> rfl
def goodP (p : Parsed) (gen : Int) (i : Nat) : Bool := !(decide ¬p.e = 0 || decide ¬p.gen = gen || decide ¬p.seq = (i : Int))
def replayI (gen : Int) : Nat → List (List UInt8) → List (List Msg)
  | _, [] => []
  | i, c :: cs => if goodP (walP c) gen i then (walP c).l :: replayI gen (i + 1) cs else []
def replayF (gen : Int) (cs : List (List UInt8)) : List (List Msg) := replayI gen 0 cs
theorem replay_drop {gen : Int} {i : Nat} {cs : List (List UInt8)} {x : List UInt8} (hx : cs[i]? = some x) : replayI gen i (cs.drop i) = if goodP (walP x) gen i then (walP x).l :: replayI gen (i + 1) (cs.drop (i + 1)) else [] := by
  obtain ⟨h, e⟩ := List.getElem?_eq_some_iff.1 hx
  rw [List.drop_eq_getElem_cons h, e, replayI]
def hReplay : Det := det2 cBytess (cI .i64) (fun cs _ => cs.length ≤ 1000000) fun cs gen => .d (.list ((replayF gen cs).map (oneC cMsgs)))
/-- Results compared (law 24). -/
def hSame : Det := det2 cMsgs cMsgs (fun _ _ => True) fun a b => .d (.bool (decide (a = b)))
def h24same : Det := det2 cParsed cParsed (fun _ _ => True) fun a b => .d (.bool (decide (a = b)))
theorem Parsed.eqB (a b : Parsed) : (decide (a.gen = b.gen) && (decide (a.seq = b.seq) && (decide (a.l = b.l) && decide (a.e = b.e)))) = decide (a = b) := by
  cases a; cases b
  simp only [Parsed.mk.injEq]
  simp [Bool.decide_and]
def h24parsed : Det := det1 cBytes (fun _ => True) fun b => .d (.agg (walP b).enc)
def hSameG : Det := det2 cMsgss cMsgss (fun _ _ => True) fun a b => .d (.bool (decide (a = b)))
end Go.PE
