/- Frames read (package wal). -/
import Derived.Test.YtkgkpmdbcjelfaaGreatWkJ
set_option linter.unusedVariables false
set_option linter.defProp false
set_option linter.all false
set_option linter.unusedSimpArgs false
set_option maxRecDepth 10000
set_option maxHeartbeats 2000000
namespace Go.PE
open Go Go.Proofs

theorem or_u64 (a b : Nat) (ha : a < 72057594037927936) (hb : b < 256) : bitsI .or .u64 (IntKind.u64.wrap (a * 2 ^ min 8 IntKind.u64.bits)) (IntKind.u64.wrap (b : Int)) = ((256 * a + b : Nat) : Int) := by
  have e1 : ((a : Int) * (2 : Int) ^ min 8 IntKind.u64.bits) = ((a <<< 8 : Nat) : Int) := by
    rw [Nat.shiftLeft_eq]
    show (a : Int) * (2 : Int) ^ 8 = ((a * 2 ^ 8 : Nat) : Int)
    rw [Int.natCast_mul, Int.natCast_pow]
    rfl
  have hs : a <<< 8 = 256 * a := by rw [Nat.shiftLeft_eq]; omega
  have ho : a <<< 8 ||| b = 256 * a + b := by rw [← Nat.shiftLeft_add_eq_or_of_lt (show b < 2 ^ 8 by omega), hs]
  have wu : ∀ x : Nat, x < 18446744073709551616 → IntKind.u64.wrap (x : Int) = (x : Int) := fun x hx => by rw [IntKind.wrap_u64]; omega
  rw [e1, hs, wu _ (by omega), wu _ (by omega)]
  show IntKind.u64.wrap ((BitVec.ofInt 64 ((256 * a : Nat) : Int) ||| BitVec.ofInt 64 (b : Int)).toNat : Int) = _
  rw [BitVec.ofInt_natCast, BitVec.ofInt_natCast, BitVec.toNat_or, BitVec.toNat_ofNat, BitVec.toNat_ofNat, Nat.mod_eq_of_lt (by omega), Nat.mod_eq_of_lt (by omega), ← hs, ho, wu _ (by omega), hs]
def hValue : Det := det1 cBytes (fun l => l.length ≤ 8) fun l => .d (.int .u64 (readN l : Nat))
/-- What stops a reader. -/
def damage : AV := .d (.iface 113 (.agg []))
/-- The box of a reader of bytes. -/
def decO : List AV → Option (List UInt8)
  | [.d (.list es)] => decL byteDec es
  | _ => none
theorem decO_eq (l : List UInt8) : decO [.d (.list (l.map byteCell))] = some l := decL_map byteDec_de l
theorem decO_inv {c : List AV} {l : List UInt8} (h : decO c = some l) : c = [.d (.list (l.map byteCell))] := by
  unfold decO at h
  split at h
  · rw [decL_inv byteDec_ed h]
  · cases h
/-- (*wal.reader).take -/
def hWTake : Handler := fun args b r K => match args, b, r with
  | [.ptr 0 0, .d (.int .i64 n)], [c], [] => @nK _ (decO c) ⟨fun l => 0 ≤ n ∧ (n ≤ l.length → K (.ret (.d (.list ((l.take n.toNat).map byteCell)))) [[.d (.list ((l.drop n.toNat).map byteCell))]] []) ∧ (l.length < n → K (.panic damage) [[.d (.list (l.map byteCell))]] [])⟩
  | _, _, _ => False
/-- (*wal.reader).number -/
def hWNumber : Handler := fun args b r K => match args, b, r with
  | [.ptr 0 0], [c], [] => @nK _ (decO c) ⟨fun l => ((4 ≤ l.length ∧ readN (l.take 4) < 2147483648) → K (.ret (.d (.int .i64 (readN (l.take 4) : Nat)))) [[.d (.list ((l.drop 4).map byteCell))]] []) ∧
      (¬ (4 ≤ l.length ∧ readN (l.take 4) < 2147483648) → ∀ l' : List UInt8, K (.panic damage) [[.d (.list (l'.map byteCell))]] [])⟩
  | _, _, _ => False
/-- All messages that bytes are, behind those that were read. -/
def msgsF : Nat → List UInt8 → List Msg → Option (List Msg)
  | 0, _, _ => none
  | f + 1, l, acc => if l = [] then some acc else match parse1 l with
    | none => none
    | some (m, n) => if acc.length = 64 then none else msgsF f (l.drop n) (acc ++ [m])
theorem rdNum1_le (x : Rd) : (rdNum 1 x).2.l.length ≤ x.l.length - 1 := by
  unfold rdNum rdTake
  split
  · simp
  · simp
theorem rdMsg_le1 (x : Rd) : (rdMsg x).2.l.length ≤ (rdNum 1 x).2.l.length := by
  have h2 := rdText_le (rdNum 1 x).2
  have h3 := rdText_le (rdText (rdNum 1 x).2).2
  have h4 := rdNum_le 4 (rdText (rdText (rdNum 1 x).2).2).2
  unfold rdMsg
  dsimp only
  repeat' split
  all_goals (dsimp only; omega)
theorem parse1_pos {l : List UInt8} {m : Msg} {n : Nat} (h : parse1 l = some (m, n)) (hl : l ≠ []) : 1 ≤ n ∧ n ≤ l.length := by
  unfold parse1 at h
  split at h
  · cases h
  · injection h with h
    injection h with h1 h2
    have h3 := rdMsg_le1 ⟨l, false⟩
    have h4 := rdNum1_le ⟨l, false⟩
    have h5 : 0 < l.length := List.length_pos_iff.2 hl
    simp only at h4
    omega
theorem msgsF_fuel : ∀ (f : Nat) (l : List UInt8) (acc : List Msg), l.length < f → msgsF f l acc = msgsF (l.length + 1) l acc := by
  intro f
  induction f using Nat.strongRecOn with
  | _ f ih =>
    intro l acc hl
    cases f with
    | zero => omega
    | succ f =>
      simp only [msgsF]
      by_cases hl0 : l = []
      · simp [hl0]
      · simp only [hl0, if_false]
        cases hp : parse1 l with
        | none => rfl
        | some mn =>
          obtain ⟨m, n⟩ := mn
          obtain ⟨n1, n2⟩ := parse1_pos hp hl0
          simp only
          have hd : (l.drop n).length = l.length - n := by simp
          rw [ih f (by omega) (l.drop n) _ (by omega)]
          by_cases hf : l.length < f + 1
          · rcases Nat.lt_or_ge l.length (f + 1) with h1 | h1
            · by_cases h2 : l.length = f
              · rw [h2, ih f (by omega) (l.drop n) _ (by omega)]
              · rw [ih l.length (by omega) (l.drop n) _ (by omega)]
            · omega
          · omega
/-- (*wal.reader).messages -/
def hWMsgs : Handler := fun args b r K => match args, b, r with
  | [.ptr 0 0], [c], [] => @nK _ (decO c) ⟨fun l => (∀ ms, msgsF (l.length + 1) l [] = some ms → ∀ l' : List UInt8, K (.ret (.d (.list (ms.map Msg.enc)))) [[.d (.list (l'.map byteCell))]] []) ∧
      (msgsF (l.length + 1) l [] = none → ∀ l' : List UInt8, K (.panic damage) [[.d (.list (l'.map byteCell))]] [])⟩
  | _, _, _ => False
/-- What a frame has. -/
def walF (b : List UInt8) : Option (Nat × Nat × List Msg) :=
  if b.length < 21 ∨ 65536 < b.length then none
  else
    let body := b.take (b.length - 8)
    if ¬ (body.getD 0 0 = 70 ∧ readN (b.drop (b.length - 8)) = fnv body) then none
    else
      let gen := readN ((body.drop 1).take 4)
      let seq := readN ((body.drop 5).take 4)
      if gen < 2147483648 ∧ seq < 2147483648 ∧ readN ((body.drop 9).take 4) = body.length - 13 then
        match msgsF ((body.drop 13).length + 1) (body.drop 13) [] with
        | none => none
        | some [] => none
        | some (m :: ms) => some (gen, seq, m :: ms)
      else none
def walA (x : Option (Nat × Nat × List Msg)) : AV := match x with
  | some (g, s, l) => .tup [.d (.int .i64 g), .d (.int .i64 s), .d (.list (l.map Msg.enc)), .d (.int .i64 0)]
  | none => .tup [.d (.int .i64 0), .d (.int .i64 0), .d (.list []), .d (.int .i64 240)]
def hWParse : Det := det1 cBytes (fun _ => True) fun b => walA (walF b)
end Go.PE
