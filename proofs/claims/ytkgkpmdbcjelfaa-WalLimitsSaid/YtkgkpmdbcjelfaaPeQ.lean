/- The evaluator of code: what it asks (see PeA, PeD). -/
import Derived.Test.YtkgkpmdbcjelfaaPeP
set_option linter.unusedVariables false
set_option linter.unusedSimpArgs false
namespace Go.PE
open Go

/-! ### calls -/
inductive Out where
  | ret (x : AV)
  | panic (x : AV)

/-- What a call asks, so that after it K holds. -/
abbrev Handler := List AV → List (List AV) → List Arr → (Out → List (List AV) → List Arr → Prop) → Prop

/-- How a call ends. -/
def EndQ (w0 : World) (F : List Nat) (M : Mem) (r : List Arr) (w : World) (K : Out → List (List AV) → List Arr → Prop) : Ending → World → Prop
  | .returned v, w' => ∃ x b' r' M', K (.ret x) b' r' ∧ Inv w0 F M' b' r' w' ∧ Chg w M r w' M' r' ∧ RepA w' M' r' v x
  | .panicked chain, w' => ∃ x b' r' M' u, K (.panic x) b' r' ∧ chain = [{ v := u, recovered := false }] ∧ Inv w0 F M' b' r' w' ∧ Chg w M r w' M' r' ∧ RepA w' M' r' u x
  | .outgrown, _ => False

def HOk (P : Program) (f : FuncId) (h : Handler) : Prop :=
  ∀ ⦃w0 : World⦄ ⦃F : List Nat⦄ ⦃M : Mem⦄ ⦃b : List (List AV)⦄ ⦃r : List Arr⦄ ⦃w : World⦄ ⦃vs : Array Value⦄ ⦃args : List AV⦄ ⦃K : Out → List (List AV) → List Arr → Prop⦄,
    Inv w0 F M b r w → RepL w M r vs args → h args b r K → Enters P f ∧ Calls P f vs w (EndQ w0 F M r w K)

/-- A function of data: what it asks, what it gives. -/
abbrev Det := List D → Prop × AV
def Det.handler (h : Det) : Handler := fun args b r K => ∃ ds, allD args = some ds ∧ (h ds).1 ∧ K (.ret (h ds).2) b r

structure Env where
  H : FuncId → Handler
  Dt : FuncId → Option Det

structure Env.Ok (P : Program) (E : Env) : Prop where
  h : ∀ f, HOk P f (E.H f)
  dt : ∀ f d, E.Dt f = some d → HOk P f d.handler

/-! ### operations -/
def St.put (st : St) (dst : Option Tmp) (v : AV) : St :=
  match dst with
  | some d => { st with t := st.t.set d v }
  | none => st

def valid (G : List (Nat × Bool)) (d : Nat) : Prop := ∀ p ∈ G, p.1 = d → p.2 = true
def validO (G : List (Nat × Bool)) : Operand → Prop
  | .tmp d => valid G d
  | _ => True
def needL (G : List (Nat × Bool)) (xs : List Operand) : Prop := ∀ x ∈ xs, validO G x
def need (G : List (Nat × Bool)) (o : Op) (st : St) : Prop :=
  match o with
  | .pick c a b => match st.ev c with
    | .d (.bool e) => validO G c ∧ (e = true → validO G a) ∧ (e = false → validO G b)
    | _ => needL G [c, a, b]
  | o => needL G o.operands.toList

/-- The value of a row's element: whatever it is, where there is none. -/
def elemG (g : Bool) (es : List (List D)) (k n : Nat) (F : List D → Prop) : Prop :=
  ∃ x : List D, (∀ y, es[k]? = some y → x = y) ∧ (g = true → x.length = n) ∧ F x

def elemK (es : List (List D)) (k n : Nat) (F : List D → Prop) : Prop := ∀ x, es[k]? = some x → x.length = n ∧ F x
def byteK (s : List UInt8) (k : Nat) (F : UInt8 → Prop) : Prop := ∀ c, s[k]? = some c → F c

def runK (E : Env) (R : Res) (K : AV → St → Prop) (KP : AV → St → Prop) : Prop :=
  match R with
  | .fail => False
  | .ok p v st => p ∧ K v st
  | .elem p es k n st => p ∧ elemK es k n fun x => K (.cptr x) st
  | .byte p s k st => p ∧ byteK s k fun c => K (.d (.int .u8 (c.toNat : Int))) st
  | .call f args st => E.H f args st.b st.r fun o b r => match o with
    | .ret x => K x { st with b := b, r := r }
    | .panic x => KP x { st with b := b, r := r }
  | .panic x st => KP x st

/-- Operations that may be reckoned whether they are wanted or not. -/
def stillOp : Op → Bool
  | .alloc _ | .box _ _ | .buildSlice _ _ _ | .store _ _ _ | .makeSlice _ _ _ | .panic _ => false
  | .call c => match c.callee with
    | .builtin .len | .builtin .min | .builtin .max => true
    | .builtin _ => false
    | _ => true
  | _ => true

def gval (L : List Oper) (st : St) (g : Nat) : Option (Tmp × Bool) :=
  match L[g]? with
  | some o => match o.dst with
    | some d => match st.t.getD d .undef with
      | .d (.bool x) => if d < st.t.length then some (d, x) else none
      | _ => none
    | none => none
  | none => none

def addG (dst : Option Tmp) (g : Bool) (G : List (Nat × Bool)) : List (Nat × Bool) :=
  match dst with
  | some d => (d, g) :: G
  | none => G

/-- Either way. -/
def splitK (P : Program) (E : Env) (o : Oper) (gd : Tmp) (x pol : Bool) (G : List (Nat × Bool)) (st : St) (K : List (Nat × Bool) → St → Prop) (KP : AV → St → Prop) : Prop :=
  (x = pol → need G o.op (st.put (some gd) (.d (.bool pol))) ∧ runK E (opR P o (st.put (some gd) (.d (.bool pol)))) (fun v st => K G (st.put o.dst v)) KP) ∧
  (x = !pol → K G ((st.put (some gd) (.d (.bool !pol))).put o.dst .undef))

def guardK (P : Program) (E : Env) (o : Oper) (gd : Tmp) (x pol : Bool) (R : Res) (G : List (Nat × Bool)) (st : St) (K : List (Nat × Bool) → St → Prop) (KP : AV → St → Prop) : Prop :=
  match stillOp o.op, R with
  | true, .ok p v st' => ((x == pol) = true → need G o.op st ∧ p) ∧ (st'.b = st.b ∧ st'.r = st.r) ∧ K (addG o.dst (x == pol) G) (st.put o.dst v)
  | true, .elem p es k n st' => ((x == pol) = true → need G o.op st ∧ p) ∧ (st'.b = st.b ∧ st'.r = st.r) ∧ elemG (x == pol) es k n fun y => K (addG o.dst (x == pol) G) (st.put o.dst (.cptr y))
  | true, .byte p s k st' => ((x == pol) = true → need G o.op st ∧ p) ∧ (st'.b = st.b ∧ st'.r = st.r) ∧ K (addG o.dst (x == pol) G) (st.put o.dst (.d (.int .u8 ((s.getD k 0).toNat : Int))))
  | true, .call f args _ => match E.Dt f, allD args with
    | some h, some ds => ((x == pol) = true → need G o.op st ∧ (h ds).1) ∧ K (addG o.dst (x == pol) G) (st.put o.dst (h ds).2)
    | _, _ => splitK P E o gd x pol G st K KP
  | _, _ => splitK P E o gd x pol G st K KP

def opK (P : Program) (E : Env) (L : List Oper) (o : Oper) (G : List (Nat × Bool)) (st : St) (K : List (Nat × Bool) → St → Prop) (KP : AV → St → Prop) : Prop :=
  match o.guard with
  | none => need G o.op st ∧ runK E (opR P o st) (fun v st => K G (st.put o.dst v)) KP
  | some (gi, pol) => match gval L st gi with
    | some (gd, x) => valid G gd ∧ guardK P E o gd x pol (opR P o st) G st K KP
    | none => False

def clean : List (Nat × Bool) → St → St
  | [], st => st
  | (d, _) :: G, st => (clean G st).put (some d) .undef

def opsK (P : Program) (E : Env) (L : List Oper) : List Oper → List (Nat × Bool) → St → (St → Prop) → (AV → St → Prop) → Prop
  | [], G, st, K, _ => K (clean G st)
  | o :: l, G, st, K, KP => opK P E L o G st (fun G st => opsK P E L l G st K KP) KP

/-! ### loops -/
/-- s says no more than s'. -/
def leV : List AV → List AV → Prop
  | [], [] => True
  | _ :: l, .undef :: m => leV l m
  | .nilS :: l, y :: m => (y = .nilS ∨ y = .d (.list [])) ∧ leV l m
  | x :: l, y :: m => x = y ∧ leV l m
  | _, _ => False
def leB : List (List AV) → List (List AV) → Prop
  | _, [] => True
  | c :: l, d :: m => leV c d ∧ leB l m
  | [], _ :: _ => False
def leR : List Arr → List Arr → Prop
  | _, [] => True
  | A :: l, B :: m => A = B ∧ leR l m
  | [], _ :: _ => False
mutual
def idsA (nb nr : Nat) : AV → Bool
  | .undef | .d _ | .nilS | .cptr _ => true
  | .agg cs | .tup cs => idsL nb nr cs
  | .arr id _ | .eptr id _ _ _ => decide (id < nr)
  | .ptr id _ => decide (id < nb)
  | .iface _ x => idsA nb nr x
  | .fn _ a b => idsL nb nr a && idsL nb nr b
def idsL (nb nr : Nat) : List AV → Bool
  | [] => true
  | x :: l => idsA nb nr x && idsL nb nr l
end
def idsB (nb nr : Nat) : List (List AV) → Bool
  | [] => true
  | c :: l => idsL nb nr c && idsB nb nr l
structure St.le (st s : St) : Prop where
  t : leV st.t s.t
  b : leB st.b s.b
  r : leR st.r s.r
  it : idsL s.b.length s.r.length s.t = true
  ib : idsB s.b.length s.r.length s.b = true

/-! ### regions whose order is drawn -/
def stillV (P : Program) (o : Oper) (g : Bool) (G : List (Nat × Bool)) (st : St) (F : AV → Prop) : Prop :=
  match opR P o st with
  | .ok p v st' => (g = true → need G o.op st ∧ p) ∧ (st'.b = st.b ∧ st'.r = st.r) ∧ F v
  | .elem p es k n st' => (g = true → need G o.op st ∧ p) ∧ (st'.b = st.b ∧ st'.r = st.r) ∧ elemG g es k n fun y => F (.cptr y)
  | .byte p s k st' => (g = true → need G o.op st ∧ p) ∧ (st'.b = st.b ∧ st'.r = st.r) ∧ F (.d (.int .u8 ((s.getD k 0).toNat : Int)))
  | _ => g = false ∧ F .undef
def stillK (P : Program) (L : List Oper) (o : Oper) (G : List (Nat × Bool)) (st : St) (K : List (Nat × Bool) → St → Prop) : Prop :=
  match o.guard with
  | none => stillV P o true G st fun v => K G (st.put o.dst v)
  | some (gi, pol) => match gval L st gi with
    | some (gd, x) => valid G gd ∧ stillV P o (x == pol) G st fun v => K (addG o.dst (x == pol) G) (st.put o.dst v)
    | none => False
/-- Reckoned ahead, and still right. -/
def pendV (P : Program) (o : Oper) (g : Bool) (G : List (Nat × Bool)) (st : St) : Prop :=
  (∀ d, o.dst = some d → valid G d → g = true) ∧
  (g = true → need G o.op st ∧ (opR P o st).sem fun v st' => (∀ d, o.dst = some d → d < st.t.length → v = st.t.getD d .undef) ∧ st'.b = st.b ∧ st'.r = st.r)
def pendO (P : Program) (L : List Oper) (o : Oper) (G : List (Nat × Bool)) (st : St) : Prop :=
  match o.guard with
  | none => pendV P o true G st
  | some (gi, pol) => match gval L st gi with
    | some (gd, x) => valid G gd ∧ pendV P o (x == pol) G st
    | none => False
def pendL (P : Program) (L : List Oper) (G : List (Nat × Bool)) (st : St) : List Nat → Prop
  | [] => True
  | i :: l => (match L[i]? with | some o => pendO P L o G st | none => False) ∧ pendL P L G st l

def planK (P : Program) (E : Env) (L : List Oper) : List (Nat × Bool × List Nat) → List (Nat × Bool) → St → (St → Prop) → (AV → St → Prop) → Prop
  | [], G, st, K, _ => K (clean G st)
  | (i, ch, rc) :: l, G, st, K, KP => match L[i]? with
    | some o => match ch with
      | true => opK P E L o G st (fun G st => pendL P L G st rc ∧ planK P E L l G st K KP) KP
      | false => stillK P L o G st (fun G st => planK P E L l G st K KP)
    | none => False

/-! ### code -/
def evalK (P : Program) (E : Env) (pl : Nat → List (Nat × Bool × List Nat)) : Code → St → (Ex → St → Prop) → Prop
  | .skip, st, Q => Q .normal st
  | .label _, st, Q => Q .normal st
  | .seq x y, st, Q => evalK P E pl x st fun e st => match e with
    | .normal => evalK P E pl y st Q
    | e => Q e st
  | .cond c x y, st, Q => match st.ev c with
    | .d (.bool e) => (e = true → evalK P E pl x st Q) ∧ (e = false → evalK P E pl y st Q)
    | _ => False
  | .block id x, st, Q => evalK P E pl x st fun e st => match e with
    | .exit i => if i = id then Q .normal st else Q (.exit i) st
    | e => Q e st
  | .exit i, st, Q => Q (.exit i) st
  | .ret, st, Q => Q .ret st
  | .loop x, st, Q => ∃ (α : Type) (S : α → St) (μ : α → Nat) (a0 : α), st.le (S a0) ∧ (∀ a, (S a).b.length = st.b.length ∧ (S a).r.length = st.r.length) ∧
      ∀ a, evalK P E pl x (S a) fun e st => match e with
        | .normal => ∃ a', μ a' < μ a ∧ st.le (S a')
        | e => Q e st
  | .region _ ops false, st, Q => opsK P E ops.toList ops.toList [] st (fun st => Q .normal st) fun x st => Q (.panic x) st
  | .region id ops true, st, Q => planK P E ops.toList (pl id) [] st (fun st => Q .normal st) fun x st => Q (.panic x) st
  | _, _, _ => False
end Go.PE
