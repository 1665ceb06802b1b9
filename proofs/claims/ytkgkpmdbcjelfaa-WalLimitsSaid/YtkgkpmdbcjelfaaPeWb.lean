/- The evaluator: the rules by which simp runs it. What follows stands in a box that simp does not open before it is reached (arguments of a class are left alone by simp). -/
import Derived.Test.YtkgkpmdbcjelfaaPeW
set_option linter.unusedVariables false
set_option linter.unusedSimpArgs false
namespace Go.PE
open Go

class Kt (α : Type) where v : α
structure Cx where
  P : Program
  l : List (FuncId × Known)
  pl : Nat → List (Nat × Bool × List Nat)
  L : List Oper

section defs
variable [cx : Kt Cx]
def Cx.E (c : Cx) : Env := mkEnv c.l
def eK (st : St) [c : Kt Code] [Q : Kt (Ex → St → Prop)] : Prop := evalK cx.v.P cx.v.E cx.v.pl c.v st Q.v
def oK (G : List (Nat × Bool)) (st : St) [l : Kt (List Oper)] [K : Kt (St → Prop)] [KP : Kt (AV → St → Prop)] : Prop := opsK cx.v.P cx.v.E cx.v.L l.v G st K.v KP.v
def pK (G : List (Nat × Bool)) (st : St) [l : Kt (List (Nat × Bool × List Nat))] [K : Kt (St → Prop)] [KP : Kt (AV → St → Prop)] : Prop := planK cx.v.P cx.v.E cx.v.L l.v G st K.v KP.v
def p0 (l : List (Nat × Bool × List Nat)) (G : List (Nat × Bool)) (st : St) [K : Kt (St → Prop)] [KP : Kt (AV → St → Prop)] : Prop := planK cx.v.P cx.v.E cx.v.L l G st K.v KP.v
def o1 (G : List (Nat × Bool)) (st : St) [o : Kt Oper] [K : Kt (List (Nat × Bool) → St → Prop)] [KP : Kt (AV → St → Prop)] : Prop := opK cx.v.P cx.v.E cx.v.L o.v G st K.v KP.v
def s1 (G : List (Nat × Bool)) (st : St) [o : Kt Oper] [K : Kt (List (Nat × Bool) → St → Prop)] : Prop := stillK cx.v.P cx.v.L o.v G st K.v
def rK (R : Res) [K : Kt (AV → St → Prop)] [KP : Kt (AV → St → Prop)] : Prop := runK cx.v.E R K.v KP.v
def gK (x pol : Bool) (R : Res) [o : Kt Oper] [gd : Kt Tmp] [G : Kt (List (Nat × Bool))] [st : Kt St] [K : Kt (List (Nat × Bool) → St → Prop)] [KP : Kt (AV → St → Prop)] : Prop := guardK cx.v.P cx.v.E o.v gd.v x pol R G.v st.v K.v KP.v
def spK (x pol : Bool) [o : Kt Oper] [gd : Kt Tmp] [G : Kt (List (Nat × Bool))] [st : Kt St] [K : Kt (List (Nat × Bool) → St → Prop)] [KP : Kt (AV → St → Prop)] : Prop := splitK cx.v.P cx.v.E o.v gd.v x pol G.v st.v K.v KP.v
end defs
def sW (R : Res) (nd : Prop) (g : Bool) (st : St) [F : Kt (AV → Prop)] : Prop := stillW R nd g st F.v
def cK (v : AV) [T : Kt Prop] [F : Kt Prop] : Prop := condK v T.v F.v
def nK {α : Type} (x : Option α) [F : Kt (α → Prop)] : Prop := optK x F.v
def dK (h : Option Det) (ds : Option (List D)) [F : Kt (Prop × AV → Prop)] [S : Kt Prop] : Prop := detK h ds F.v S.v
def eG (g : Bool) (es : List (List D)) (k n : Nat) [F : Kt (List D → Prop)] : Prop := elemG g es k n F.v
def eL (es : List (List D)) (k n : Nat) [F : Kt (List D → Prop)] : Prop := elemK es k n F.v
def bL (s : List UInt8) (k : Nat) [F : Kt (UInt8 → Prop)] : Prop := byteK s k F.v
def aC (o : Out) (b : List (List AV)) (r : List Arr) [st : Kt St] [K : Kt (AV → St → Prop)] [KP : Kt (AV → St → Prop)] : Prop := afterC st.v K.v KP.v o b r
def hK (k : Known) (args : List AV) (b : List (List AV)) (r : List Arr) [K : Kt (Out → List (List AV) → List Arr → Prop)] : Prop := k.H args b r K.v
def uK (r : List Arr) (v : AV) [F : Kt (AV → Prop)] : Prop := outK r v F.v

section code
variable {cx : Kt Cx} {st : St} {Q : Kt (Ex → St → Prop)}
theorem eK_skip : @eK cx st ⟨.skip⟩ Q = Q.v .normal st := rfl
theorem eK_label (l : Nat) : @eK cx st ⟨.label l⟩ Q = Q.v .normal st := rfl
theorem eK_seq (x y : Code) : @eK cx st ⟨.seq x y⟩ Q = @eK cx st ⟨x⟩ ⟨fun e st => match e with
    | .normal => @eK cx st ⟨y⟩ Q
    | e => Q.v e st⟩ := rfl
theorem eK_cond (c : Operand) (x y : Code) : @eK cx st ⟨.cond c x y⟩ Q = @cK (st.ev c) ⟨@eK cx st ⟨x⟩ Q⟩ ⟨@eK cx st ⟨y⟩ Q⟩ := rfl
theorem eK_block (id : Nat) (x : Code) : @eK cx st ⟨.block id x⟩ Q = @eK cx st ⟨x⟩ ⟨fun e st => match e with
    | .exit i => if i = id then Q.v .normal st else Q.v (.exit i) st
    | e => Q.v e st⟩ := rfl
theorem eK_exit (i : Nat) : @eK cx st ⟨.exit i⟩ Q = Q.v (.exit i) st := rfl
theorem eK_ret : @eK cx st ⟨.ret⟩ Q = Q.v .ret st := rfl
theorem eK_region (id : Nat) (l : List Oper) : @eK cx st ⟨.region id l.toArray false⟩ Q = @oK ⟨{ cx.v with L := l }⟩ [] st ⟨l⟩ ⟨fun st => Q.v .normal st⟩ ⟨fun x st => Q.v (.panic x) st⟩ := rfl
theorem eK_drawn (id : Nat) (l : List Oper) : @eK cx st ⟨.region id l.toArray true⟩ Q = @p0 ⟨{ cx.v with L := l }⟩ (cx.v.pl id) [] st ⟨fun st => Q.v .normal st⟩ ⟨fun x st => Q.v (.panic x) st⟩ := rfl
end code
section
variable {T F : Kt Prop}
theorem cK_true : @cK (.d (.bool true)) T F = T.v := condK_true _ _
theorem cK_false : @cK (.d (.bool false)) T F = F.v := condK_false _ _
theorem cK_bool (e : Bool) : @cK (.d (.bool e)) T F = ((e = true → T.v) ∧ (e = false → F.v)) := rfl
theorem nK_some {α : Type} (o : α) (F : Kt (α → Prop)) : @nK α (some o) F = F.v o := rfl
theorem nK_none {α : Type} (F : Kt (α → Prop)) : @nK α none F = False := rfl
end
section ops
variable {cx : Kt Cx} {G : List (Nat × Bool)} {st : St} {K1 : Kt (St → Prop)} {KP : Kt (AV → St → Prop)} {K : Kt (List (Nat × Bool) → St → Prop)}
theorem oK_nil : @oK cx G st ⟨[]⟩ K1 KP = K1.v (clean G st) := rfl
theorem oK_cons (o : Oper) (l : List Oper) : @oK cx G st ⟨o :: l⟩ K1 KP = @o1 cx G st ⟨o⟩ ⟨fun G st => @oK cx G st ⟨l⟩ K1 KP⟩ KP := rfl
theorem p0_cons (x : Nat × Bool × List Nat) (l : List (Nat × Bool × List Nat)) : @p0 cx (x :: l) G st K1 KP = @pK cx G st ⟨x :: l⟩ K1 KP := rfl
theorem pK_nil : @pK cx G st ⟨[]⟩ K1 KP = K1.v (clean G st) := rfl
theorem pK_do (i : Nat) (rc : List Nat) (l : List (Nat × Bool × List Nat)) : @pK cx G st ⟨(i, true, rc) :: l⟩ K1 KP = @nK Oper cx.v.L[i]? ⟨fun o => @o1 cx G st ⟨o⟩ ⟨fun G st => pendL cx.v.P cx.v.L G st rc ∧ @pK cx G st ⟨l⟩ K1 KP⟩ KP⟩ := planK_do ..
theorem pK_look (i : Nat) (rc : List Nat) (l : List (Nat × Bool × List Nat)) : @pK cx G st ⟨(i, false, rc) :: l⟩ K1 KP = @nK Oper cx.v.L[i]? ⟨fun o => @s1 cx G st ⟨o⟩ ⟨fun G st => @pK cx G st ⟨l⟩ K1 KP⟩⟩ := planK_look ..
variable (d : Option Tmp) (op : Op) (ty : TypeId) (p : String) (ar : Array Edge) (gi : Nat) (pol : Bool)
theorem o1_free : @o1 cx G st ⟨⟨d, op, ty, p, ar, none⟩⟩ K KP = (need G op st ∧ @rK cx (opR cx.v.P ⟨d, op, ty, p, ar, none⟩ st) ⟨fun v st => K.v G (st.put d v)⟩ KP) := rfl
theorem o1_guard : @o1 cx G st ⟨⟨d, op, ty, p, ar, some (gi, pol)⟩⟩ K KP =
    @nK _ (gval cx.v.L st gi) ⟨fun q => valid G q.1 ∧ @gK cx q.2 pol (opR cx.v.P ⟨d, op, ty, p, ar, some (gi, pol)⟩ st) ⟨⟨d, op, ty, p, ar, some (gi, pol)⟩⟩ ⟨q.1⟩ ⟨G⟩ ⟨st⟩ K KP⟩ := opK_guard ..
theorem s1_free : @s1 cx G st ⟨⟨d, op, ty, p, ar, none⟩⟩ K = @sW (opR cx.v.P ⟨d, op, ty, p, ar, none⟩ st) (need G op st) true st ⟨fun v => K.v G (st.put d v)⟩ := rfl
theorem s1_guard : @s1 cx G st ⟨⟨d, op, ty, p, ar, some (gi, pol)⟩⟩ K =
    @nK _ (gval cx.v.L st gi) ⟨fun q => valid G q.1 ∧ @sW (opR cx.v.P ⟨d, op, ty, p, ar, some (gi, pol)⟩ st) (need G op st) (q.2 == pol) st ⟨fun v => K.v (addG d (q.2 == pol) G) (st.put d v)⟩⟩ := stillK_guard ..
end ops
section
variable {nd : Prop} {g : Bool} {st : St} {F : Kt (AV → Prop)}
theorem sW_ok (p : Prop) (v : AV) (st' : St) : @sW (.ok p v st') nd g st F = ((g = true → nd ∧ p) ∧ (st'.b = st.b ∧ st'.r = st.r) ∧ F.v v) := rfl
theorem sW_elem (p : Prop) (es : List (List D)) (k n : Nat) (st' : St) : @sW (.elem p es k n st') nd g st F = ((g = true → nd ∧ p) ∧ (st'.b = st.b ∧ st'.r = st.r) ∧ @eG g es k n ⟨fun y => F.v (.cptr y)⟩) := rfl
theorem sW_byte (p : Prop) (s : List UInt8) (k : Nat) (st' : St) : @sW (.byte p s k st') nd g st F = ((g = true → nd ∧ p) ∧ (st'.b = st.b ∧ st'.r = st.r) ∧ F.v (.d (.int .u8 ((s.getD k 0).toNat : Int)))) := rfl
theorem sW_fail : @sW .fail nd g st F = (g = false ∧ F.v .undef) := rfl
end
section guards
variable {cx : Kt Cx} {K : Kt (List (Nat × Bool) → St → Prop)} {KP : Kt (AV → St → Prop)} (o : Oper) (gd : Tmp) (x pol : Bool) (G : List (Nat × Bool)) (st : St)
theorem gK_ok (h : stillOp o.op = true) (p : Prop) (v : AV) (st' : St) : @gK cx x pol (.ok p v st') ⟨o⟩ ⟨gd⟩ ⟨G⟩ ⟨st⟩ K KP = (((x == pol) = true → need G o.op st ∧ p) ∧ (st'.b = st.b ∧ st'.r = st.r) ∧ K.v (addG o.dst (x == pol) G) (st.put o.dst v)) := guardK_ok _ _ _ _ h _ _ _
theorem gK_elem (h : stillOp o.op = true) (p : Prop) (es : List (List D)) (k n : Nat) (st' : St) : @gK cx x pol (.elem p es k n st') ⟨o⟩ ⟨gd⟩ ⟨G⟩ ⟨st⟩ K KP = (((x == pol) = true → need G o.op st ∧ p) ∧ (st'.b = st.b ∧ st'.r = st.r) ∧ @eG (x == pol) es k n ⟨fun y => K.v (addG o.dst (x == pol) G) (st.put o.dst (.cptr y))⟩) := guardK_elem _ _ _ _ h _ _ _ _ _
theorem gK_byte (h : stillOp o.op = true) (p : Prop) (s : List UInt8) (k : Nat) (st' : St) : @gK cx x pol (.byte p s k st') ⟨o⟩ ⟨gd⟩ ⟨G⟩ ⟨st⟩ K KP = (((x == pol) = true → need G o.op st ∧ p) ∧ (st'.b = st.b ∧ st'.r = st.r) ∧ K.v (addG o.dst (x == pol) G) (st.put o.dst (.d (.int .u8 ((s.getD k 0).toNat : Int))))) := guardK_byte _ _ _ _ h _ _ _ _
theorem gK_call (h : stillOp o.op = true) (f : FuncId) (args : List AV) (st' : St) : @gK cx x pol (.call f args st') ⟨o⟩ ⟨gd⟩ ⟨G⟩ ⟨st⟩ K KP =
    @dK (dOf (lookK cx.v.l f)) (allD args) ⟨fun q => ((x == pol) = true → need G o.op st ∧ q.1) ∧ K.v (addG o.dst (x == pol) G) (st.put o.dst q.2)⟩ ⟨@spK cx x pol ⟨o⟩ ⟨gd⟩ ⟨G⟩ ⟨st⟩ K KP⟩ := guardK_call _ _ _ _ h _ _ _
theorem gK_fail : @gK cx x pol .fail ⟨o⟩ ⟨gd⟩ ⟨G⟩ ⟨st⟩ K KP = @spK cx x pol ⟨o⟩ ⟨gd⟩ ⟨G⟩ ⟨st⟩ K KP := guardK_fail _ _ _ _
theorem gK_panic (v : AV) (st' : St) : @gK cx x pol (.panic v st') ⟨o⟩ ⟨gd⟩ ⟨G⟩ ⟨st⟩ K KP = @spK cx x pol ⟨o⟩ ⟨gd⟩ ⟨G⟩ ⟨st⟩ K KP := guardK_panic _ _ _ _ _ _
theorem gK_not (h : stillOp o.op = false) (R : Res) : @gK cx x pol R ⟨o⟩ ⟨gd⟩ ⟨G⟩ ⟨st⟩ K KP = @spK cx x pol ⟨o⟩ ⟨gd⟩ ⟨G⟩ ⟨st⟩ K KP := guardK_not _ _ _ _ h _
theorem spK_eq : @spK cx x pol ⟨o⟩ ⟨gd⟩ ⟨G⟩ ⟨st⟩ K KP = ((x = pol → need G o.op (st.put (some gd) (.d (.bool pol))) ∧ @rK cx (opR cx.v.P o (st.put (some gd) (.d (.bool pol)))) ⟨fun v st => K.v G (st.put o.dst v)⟩ KP) ∧
  (x = !pol → K.v G ((st.put (some gd) (.d (.bool !pol))).put o.dst .undef))) := rfl
theorem dK_some (h : Det) (ds : List D) (F : Kt (Prop × AV → Prop)) (S : Kt Prop) : @dK (some h) (some ds) F S = F.v (h ds) := rfl
theorem dK_none (ds : Option (List D)) (F : Kt (Prop × AV → Prop)) (S : Kt Prop) : @dK none ds F S = S.v := detK_none _ _ _
theorem dK_none' (h : Option Det) (F : Kt (Prop × AV → Prop)) (S : Kt Prop) : @dK h none F S = S.v := detK_none' _ _ _
end guards
section runs
variable {cx : Kt Cx} {K KP : Kt (AV → St → Prop)}
theorem rK_ok (p : Prop) (v : AV) (st : St) : @rK cx (.ok p v st) K KP = (p ∧ K.v v st) := rfl
theorem rK_elem (p : Prop) (es : List (List D)) (k n : Nat) (st : St) : @rK cx (.elem p es k n st) K KP = (p ∧ @eL es k n ⟨fun x => K.v (.cptr x) st⟩) := rfl
theorem rK_byte (p : Prop) (s : List UInt8) (k : Nat) (st : St) : @rK cx (.byte p s k st) K KP = (p ∧ @bL s k ⟨fun c => K.v (.d (.int .u8 (c.toNat : Int))) st⟩) := rfl
theorem rK_fail : @rK cx .fail K KP = False := rfl
theorem rK_panic (x : AV) (st : St) : @rK cx (.panic x st) K KP = KP.v x st := rfl
theorem rK_call (f : FuncId) (args : List AV) (st : St) : @rK cx (.call f args st) K KP = @nK _ (lookK cx.v.l f) ⟨fun k => @hK k args st.b st.r ⟨fun o b r => @aC o b r ⟨st⟩ K KP⟩⟩ := runK_call ..
theorem aC_ret (st : St) (x : AV) (b : List (List AV)) (r : List Arr) : @aC (.ret x) b r ⟨st⟩ K KP = K.v x { st with b := b, r := r } := rfl
theorem aC_panic (st : St) (x : AV) (b : List (List AV)) (r : List Arr) : @aC (.panic x) b r ⟨st⟩ K KP = KP.v x { st with b := b, r := r } := rfl
variable {args : List AV} {b : List (List AV)} {r : List Arr} {Kh : Kt (Out → List (List AV) → List Arr → Prop)}
theorem hK_det (h : Det) : @hK (.det h) args b r Kh = @nK _ (toDL r args) ⟨fun ds => (h ds).1 ∧ Kh.v (.ret (h ds).2) b (share r (arrIdsL args))⟩ := H_det h
theorem hK_spec (s : Spec) : @hK (.spec s) args b r Kh = @nK _ (toDL r args) ⟨fun ds => s ds fun o => Kh.v o b (share r (arrIdsL args))⟩ := H_spec s
theorem hK_raw (h : Handler) : @hK (.raw h) args b r Kh = h args b r Kh.v := rfl
end runs
/-! ### calls that see a part of the state -/
def fB (h : Handler) (bs : List Nat) (args : List AV) (b : List (List AV)) (r : List Arr) [K : Kt (Out → List (List AV) → List Arr → Prop)] : Prop := partH h bs (seeR b bs args) args b r K.v
def fR (h : Handler) (bs rs : List Nat) (args : List AV) (b : List (List AV)) (r : List Arr) [K : Kt (Out → List (List AV) → List Arr → Prop)] : Prop := partH h bs rs args b r K.v
def pU (bs rs : List Nat) (b : List (List AV)) (r : List Arr) (o : Out) (b1 : List (List AV)) (r1 : List Arr) [K : Kt (Out → List (List AV) → List Arr → Prop)] : Prop := putK bs rs b r K.v o b1 r1
section parts
variable {h : Handler} {bs rs : List Nat} {args : List AV} {b b1 : List (List AV)} {r r1 : List Arr} {K : Kt (Out → List (List AV) → List Arr → Prop)}
theorem hK_mem (h : Handler) : @hK (.mem h) args b r K = @fB h (seeB b args) args b r K := rfl
theorem fB_eq (h : Handler) : @fB h bs args b r K = @fR h bs (seeR b bs args) args b r K := rfl
theorem fR_eq (h : Handler) : @fR h bs rs args b r K = @nK _ (lowL bs rs args) ⟨fun args0 => @nK _ (pickL b bs) ⟨fun c => @nK _ (lowB bs rs c) ⟨fun b0 => @nK _ (pickL r rs) ⟨fun r0 => (nd bs = true ∧ nd rs = true) ∧ h args0 b0 r0 (fun o b1 r1 => @pU bs rs b r o b1 r1 K)⟩⟩⟩⟩ := by
  show partH h bs rs args b r K.v = optK _ _
  unfold partH optK
  cases lowL bs rs args with
  | none => rfl
  | some args0 =>
    dsimp only
    show _ = optK _ _
    unfold optK
    cases pickL b bs with
    | none => rfl
    | some c =>
      dsimp only
      show _ = optK _ _
      unfold optK
      cases lowB bs rs c with
      | none => rfl
      | some b0 =>
        dsimp only
        show _ = optK _ _
        unfold optK
        cases pickL r rs with
        | none => rfl
        | some r0 => rfl
theorem pU_ret (x : AV) : @pU bs rs b r (.ret x) b1 r1 K = K.v (.ret (up bs b.length rs r.length x)) (mergeL bs b (upB bs b.length rs r.length b1)) (mergeL rs r r1) := rfl
theorem pU_panic (x : AV) : @pU bs rs b r (.panic x) b1 r1 K = K.v (.panic (up bs b.length rs r.length x)) (mergeL bs b (upB bs b.length rs r.length b1)) (mergeL rs r r1) := rfl
end parts
theorem upI_nil (n k : Nat) : upI [] n k = n + k := rfl
theorem upI_0 (i n : Nat) (l : List Nat) : upI (i :: l) n 0 = i := rfl
theorem upI_1 (i j n : Nat) (l : List Nat) : upI (i :: j :: l) n 1 = j := rfl
theorem upI_2 (i j k n : Nat) (l : List Nat) : upI (i :: j :: k :: l) n 2 = k := rfl
theorem upI_3 (i j k m n : Nat) (l : List Nat) : upI (i :: j :: k :: m :: l) n 3 = m := rfl
theorem upI_11 (i n : Nat) : upI [i] n 1 = n := rfl
theorem upI_12 (i n : Nat) : upI [i] n 2 = n + 1 := rfl
theorem upI_22 (i j n : Nat) : upI [i, j] n 2 = n := rfl
theorem upI_23 (i j n : Nat) : upI [i, j] n 3 = n + 1 := rfl

def arrIdsO : AV → List Nat
  | .tup cs => arrIdsL cs
  | x => arrIds x
/-- How a function ends of which the state is told; what it gives back may be told as data. -/
def vK (nb nr : Nat) (o : Out) (b : List (List AV)) (r : List Arr) [K : Kt (Out → List (List AV) → List Arr → Prop)] : Prop :=
  ∃ o' r1 b' r', K.v o' b' r' ∧ ((o' = o ∧ r1 = r) ∨ ∃ v v', o = .ret v ∧ o' = .ret v' ∧ toO r v = some v' ∧ r1 = share r (arrIdsO v)) ∧ leB b b' ∧ leR r1 r' ∧ idsB b'.length r'.length b' = true ∧
    (match o' with | .ret v => idsA b'.length r'.length v = true | .panic v => idsA b'.length r'.length v = true) ∧ nb ≤ b'.length ∧ nr ≤ r'.length
def memQ (P : Program) (rs : List ResultVar) (nb nr : Nat) (K : Out → List (List AV) → List Arr → Prop) (e : Ex) (st : St) : Prop := match e with
  | .normal => resK P st rs fun vs => @vK nb nr (.ret (oneV vs)) st.b st.r ⟨K⟩
  | .ret => resK P st rs fun vs => @vK nb nr (.ret (oneV vs)) st.b st.r ⟨K⟩
  | .panic x => @vK nb nr (.panic x) st.b st.r ⟨K⟩
  | .exit _ => False
theorem memQ_normal (P : Program) (rs : List ResultVar) (nb nr : Nat) (K : Out → List (List AV) → List Arr → Prop) (st : St) : memQ P rs nb nr K .normal st = resK P st rs fun vs => @vK nb nr (.ret (oneV vs)) st.b st.r ⟨K⟩ := rfl
theorem memQ_ret (P : Program) (rs : List ResultVar) (nb nr : Nat) (K : Out → List (List AV) → List Arr → Prop) (st : St) : memQ P rs nb nr K .ret st = resK P st rs fun vs => @vK nb nr (.ret (oneV vs)) st.b st.r ⟨K⟩ := rfl
theorem memQ_panic (P : Program) (rs : List ResultVar) (nb nr : Nat) (K : Out → List (List AV) → List Arr → Prop) (x : AV) (st : St) : memQ P rs nb nr K (.panic x) st = @vK nb nr (.panic x) st.b st.r ⟨K⟩ := rfl
theorem vK_ret {nb nr : Nat} {v : AV} {b : List (List AV)} {r : List Arr} {K : Out → List (List AV) → List Arr → Prop} (b' : List (List AV)) (r' : List Arr) (hK : K (.ret v) b' r')
    (h : leB b b' ∧ leR r r' ∧ idsB b'.length r'.length b' = true ∧ idsA b'.length r'.length v = true ∧ nb ≤ b'.length ∧ nr ≤ r'.length) : @vK nb nr (.ret v) b r ⟨K⟩ := ⟨_, _, b', r', hK, .inl ⟨rfl, rfl⟩, h⟩
theorem vK_dat {nb nr : Nat} {v : AV} {b : List (List AV)} {r : List Arr} {K : Out → List (List AV) → List Arr → Prop} (v' : AV) (b' : List (List AV)) (r' : List Arr) (hK : K (.ret v') b' r') (hv : toO r v = some v')
    (h : leB b b' ∧ leR (share r (arrIdsO v)) r' ∧ idsB b'.length r'.length b' = true ∧ idsA b'.length r'.length v' = true ∧ nb ≤ b'.length ∧ nr ≤ r'.length) : @vK nb nr (.ret v) b r ⟨K⟩ := ⟨_, _, b', r', hK, .inr ⟨v, v', rfl, rfl, hv, rfl⟩, h⟩
theorem vK_panic {nb nr : Nat} {v : AV} {b : List (List AV)} {r : List Arr} {K : Out → List (List AV) → List Arr → Prop} (b' : List (List AV)) (r' : List Arr) (hK : K (.panic v) b' r')
    (h : leB b b' ∧ leR r r' ∧ idsB b'.length r'.length b' = true ∧ idsA b'.length r'.length v = true ∧ nb ≤ b'.length ∧ nr ≤ r'.length) : @vK nb nr (.panic v) b r ⟨K⟩ := ⟨_, _, b', r', hK, .inl ⟨rfl, rfl⟩, h⟩

theorem toO_share {w0 : World} {F : List Nat} {M : Mem} {b : List (List AV)} {r : List Arr} {w : World} (h : Inv w0 F M b r w) {v : Value} {x y : AV} (hv : RepA w M r v x) (hy : toO r x = some y) :
    Inv w0 F M b (share r (arrIdsO x)) w ∧ Chg w M r w M (share r (arrIdsO x)) ∧ RepA w M (share r (arrIdsO x)) v y := by
  have one : ∀ x y, (toD r x).map AV.d = some y → RepA w M r v x → Inv w0 F M b (share r (arrIds x)) w ∧ Chg w M r w M (share r (arrIds x)) ∧ RepA w M (share r (arrIds x)) v y := by
    intro x y hy hv
    simp only [Option.map_eq_some_iff] at hy
    obtain ⟨d, hd, rfl⟩ := hy
    obtain ⟨hI, hc⟩ := Inv.shareL (arrIds x) h
    exact ⟨hI, hc, .d _ _ (toD_rep hI hc (shared_share (arrIds x) r) x d v hd (fun id hid => hid) hv)⟩
  cases x with
  | tup cs =>
    simp only [toO, Option.map_eq_some_iff] at hy
    obtain ⟨ds, hds, rfl⟩ := hy
    cases hv with
    | tup vs _ hs hr =>
      obtain ⟨hI, hc⟩ := Inv.shareL (arrIdsL cs) h
      obtain ⟨hl, hrep⟩ := toDL_rep hI hc (shared_share (arrIdsL cs) r) cs ds hds (fun id hid => hid) (fun i => vs.getD i undef) hr
      refine ⟨hI, hc, .tup vs _ (by simp [hl, hs]) (fun i hi => ?_)⟩
      have hi' : i < ds.length := by simpa using hi
      rw [getD_map_d _ _ hi']
      exact .d _ _ (hrep i hi')
  | _ => exact one _ y hy hv

theorem EndQ_cut {w0 : World} {F : List Nat} {M : Mem} {b : List (List AV)} {r : List Arr} {w : World} (h : Inv w0 F M b r w) {K : Out → List (List AV) → List Arr → Prop} {e : Ending} {w' : World}
    (he : EndQ w0 F M r w (fun o b1 r1 => @vK b.length r.length o b1 r1 ⟨K⟩) e w') : EndQ w0 F M r w K e w' := by
  have cut : ∀ {b1 : List (List AV)} {r1 : List Arr} {M' : Mem} {b' : List (List AV)} {r' : List Arr}, Inv w0 F M' b1 r1 w' → Chg w M r w' M' r1 → leB b1 b' → leR r1 r' → idsB b'.length r'.length b' = true → b.length ≤ b'.length → r.length ≤ r'.length →
      Inv w0 F (M'.cut b'.length r'.length) b' r' w' ∧ Chg w M r w' (M'.cut b'.length r'.length) r' := by
    intro b1 r1 M' b' r' hI hC h1 h2 h3 h5 h6
    have hlb : b'.length ≤ M'.bb.length := by rw [hI.lb]; exact leB_len h1
    refine ⟨Inv.cut (st := ⟨[], b1, r1⟩) (s := ⟨[], b', r'⟩) hI h1 h2 h3, fun a u ho hc => ?_, ?_, fun i hi => ?_, fun id A hA => ?_, hC.no⟩
    · obtain ⟨h8, h9⟩ := hC.cell a u ho hc
      exact ⟨h8, h9.cut h2⟩
    · simp only [Mem.cut, List.length_take]
      rw [h.lb]
      omega
    · rw [h.lb] at hi
      rw [cut_blk (by omega)]
      exact hC.blk i (by rw [h.lb]; exact hi)
    · have hid : id < r'.length := by
        have := (List.getElem?_eq_some_iff.1 hA).1
        omega
      obtain ⟨A', hA', h7, h8, h9⟩ := hC.row id A hA
      exact ⟨A', by rw [leR_get h2 id hid]; exact hA', h7, h8, by rw [cut_row hid]; exact h9⟩
  have all : ∀ {b1 : List (List AV)} {r1 : List Arr} {M' : Mem} {u : Value} {o : Out}, @vK b.length r.length o b1 r1 ⟨K⟩ → Inv w0 F M' b1 r1 w' → Chg w M r w' M' r1 → (∀ x, o = .ret x ∨ o = .panic x → RepA w' M' r1 u x) →
      ∃ o' b' r' M'', K o' b' r' ∧ Inv w0 F M'' b' r' w' ∧ Chg w M r w' M'' r' ∧ ((∃ x, o = .ret x) → ∃ x, o' = .ret x ∧ RepA w' M'' r' u x) ∧ ((∃ x, o = .panic x) → ∃ x, o' = .panic x ∧ RepA w' M'' r' u x) := by
    intro b1 r1 M' u o hv hI hC hx
    obtain ⟨o', r2, b', r', hK, hor, h1, h2, h3, h4, h5, h6⟩ := hv
    rcases hor with ⟨rfl, rfl⟩ | ⟨v, v', rfl, rfl, hd, rfl⟩
    · obtain ⟨hI', hC'⟩ := cut hI hC h1 h2 h3 h5 h6
      refine ⟨o', b', r', _, hK, hI', hC', fun ⟨x, e⟩ => ?_, fun ⟨x, e⟩ => ?_⟩
      · subst e
        exact ⟨x, rfl, (hx x (.inl rfl)).cut h2 h4⟩
      · subst e
        exact ⟨x, rfl, (hx x (.inr rfl)).cut h2 h4⟩
    · obtain ⟨hI1, hC1, hx1⟩ := toO_share hI (hx v (.inl rfl)) hd
      obtain ⟨hI', hC'⟩ := cut hI1 (hC.trans hC1) h1 h2 h3 h5 h6
      refine ⟨_, b', r', _, hK, hI', hC', fun _ => ⟨v', rfl, hx1.cut h2 h4⟩, fun ⟨x, e⟩ => by cases e⟩
  cases e with
  | returned v =>
    obtain ⟨x, b1, r1, M', hv, hI, hC, hx⟩ := he
    obtain ⟨o', b', r', M'', hK, hI', hC', h1, _⟩ := all hv hI hC (u := v) (fun y hy => by rcases hy with e | e <;> cases e; exact hx)
    obtain ⟨x', rfl, hx'⟩ := h1 ⟨x, rfl⟩
    exact ⟨x', b', r', _, hK, hI', hC', hx'⟩
  | panicked ch =>
    obtain ⟨x, b1, r1, M', u, hv, rfl, hI, hC, hx⟩ := he
    obtain ⟨o', b', r', M'', hK, hI', hC', _, h2⟩ := all hv hI hC (u := u) (fun y hy => by rcases hy with e | e <;> cases e; exact hx)
    obtain ⟨x', rfl, hx'⟩ := h2 ⟨x, rfl⟩
    exact ⟨x', b', r', _, u, hK, rfl, hI', hC', hx'⟩
  | outgrown => exact he.elim

section runs
variable {cx : Kt Cx} {K KP : Kt (AV → St → Prop)}
theorem eL_map {α : Type} (enc : α → List D) (l : List α) (k n : Nat) (F : Kt (List D → Prop)) : @eL (l.map enc) k n F = ∀ x, l[k]? = some x → (enc x).length = n ∧ F.v (enc x) := elemK_map ..
theorem eL_nil (k n : Nat) (F : Kt (List D → Prop)) : @eL [] k n F = True := by simp [eL, elemK]
theorem eL_0 (e : List D) (es : List (List D)) (n : Nat) (F : Kt (List D → Prop)) : @eL (e :: es) 0 n F = (e.length = n ∧ F.v e) := by simp [eL, elemK]
theorem eL_1 (a e : List D) (es : List (List D)) (n : Nat) (F : Kt (List D → Prop)) : @eL (a :: e :: es) 1 n F = (e.length = n ∧ F.v e) := by simp [eL, elemK]
theorem eL_2 (a b e : List D) (es : List (List D)) (n : Nat) (F : Kt (List D → Prop)) : @eL (a :: b :: e :: es) 2 n F = (e.length = n ∧ F.v e) := by simp [eL, elemK]
theorem eG_0 (g : Bool) (e : List D) (es : List (List D)) (n : Nat) (F : Kt (List D → Prop)) : @eG g (e :: es) 0 n F = ((g = true → e.length = n) ∧ F.v e) := by simp [eG, elemG]
theorem eG_1 (g : Bool) (a e : List D) (es : List (List D)) (n : Nat) (F : Kt (List D → Prop)) : @eG g (a :: e :: es) 1 n F = ((g = true → e.length = n) ∧ F.v e) := by simp [eG, elemG]
theorem eG_2 (g : Bool) (a b e : List D) (es : List (List D)) (n : Nat) (F : Kt (List D → Prop)) : @eG g (a :: b :: e :: es) 2 n F = ((g = true → e.length = n) ∧ F.v e) := by simp [eG, elemG]
theorem bL_eq (s : List UInt8) (k : Nat) (F : Kt (UInt8 → Prop)) : @bL s k F = ∀ c, s[k]? = some c → F.v c := rfl
theorem eG_map {α : Type} [Inhabited α] (g : Bool) (enc : α → List D) (l : List α) (k n : Nat) (F : Kt (List D → Prop)) (h : (g = true → (enc (l.getD k default)).length = n) ∧ F.v (enc (l.getD k default))) : @eG g (l.map enc) k n F := elemG_map g enc l k n F.v h
theorem uK_eq (r : List Arr) (v : AV) (F : Kt (AV → Prop)) : @uK r v F = @nK _ (toO r v) F := by
  show outK r v F.v = optK (toO r v) F.v
  unfold outK optK
  cases toO r v <;> rfl
end runs

/-- How a function of data ends. -/
def retQ (P : Program) (rs : List ResultVar) (K : Out → Prop) (e : Ex) (st : St) : Prop := match e with
  | .normal => resK P st rs fun vs => @uK st.r (oneV vs) ⟨fun x => K (.ret x)⟩
  | .ret => resK P st rs fun vs => @uK st.r (oneV vs) ⟨fun x => K (.ret x)⟩
  | .panic x => @uK st.r x ⟨fun x => K (.panic x)⟩
  | .exit _ => False
theorem retQ_normal (P : Program) (rs : List ResultVar) (K : Out → Prop) (st : St) : retQ P rs K .normal st = resK P st rs fun vs => @uK st.r (oneV vs) ⟨fun x => K (.ret x)⟩ := rfl
theorem retQ_ret (P : Program) (rs : List ResultVar) (K : Out → Prop) (st : St) : retQ P rs K .ret st = resK P st rs fun vs => @uK st.r (oneV vs) ⟨fun x => K (.ret x)⟩ := rfl
theorem retQ_panic (P : Program) (rs : List ResultVar) (K : Out → Prop) (x : AV) (st : St) : retQ P rs K (.panic x) st = @uK st.r x ⟨fun x => K (.panic x)⟩ := rfl

/-- A function of data, by running its body. -/
theorem FPure.run {P : Program} (l : List (FuncId × Known)) (pl : Nat → List (Nat × Bool × List Nat)) (hl : ∀ p ∈ l, KnownOk P p.1 p.2) (hm : P.follows .mixedOrders = true) {f : FuncId} {fn : Func} {c : Code} {s : Spec}
    (hf : P.funcs[f]? = some fn) (hn : (fn.name == "runtime.NumGoroutine") = false) (hb : fn.body = some c) (hdr : drawsB pl c = true) (n : Nat) (hnt : fn.ntmps = n) (rs : List ResultVar) (hrs : fn.results = rs.toArray)
    (h : ∀ ds K, s ds K → @eK ⟨⟨P, l, pl, []⟩⟩ ⟨ds.map .d ++ List.replicate (n - (ds.map AV.d).length) .undef, [], []⟩ ⟨c⟩ ⟨retQ P rs K⟩) : FPure P f s := by
  refine FPure.ofBody (E := mkEnv l) (pl := pl) (env_ok hl) hm hf hn hb hdr (fun ds K hs => ?_)
  have h1 := h ds K hs
  unfold bodyK
  rw [hnt, hrs]
  have e : (fun (e : Ex) (st : St) => (match e with
    | .normal => resK P st rs.toArray.toList fun vs => outK st.r (oneV vs) fun x => K (.ret x)
    | .ret => resK P st rs.toArray.toList fun vs => outK st.r (oneV vs) fun x => K (.ret x)
    | .panic x => outK st.r x fun x => K (.panic x)
    | .exit _ => False : Prop)) = retQ P rs K := by
    funext e st
    cases e <;> rfl
  exact e ▸ h1

/-- A function of which the state is told, by running its body. -/
theorem HOk.run0 {P : Program} (l : List (FuncId × Known)) (pl : Nat → List (Nat × Bool × List Nat)) (hl : ∀ p ∈ l, KnownOk P p.1 p.2) (hm : P.follows .mixedOrders = true) {f : FuncId} {fn : Func} {c : Code}
    (hf : P.funcs[f]? = some fn) (hn : (fn.name == "runtime.NumGoroutine") = false) (hb : fn.body = some c) (hdr : drawsB pl c = true) (n : Nat) (hnt : fn.ntmps = n) (rs : List ResultVar) (hrs : fn.results = rs.toArray) :
    HOk P f (fun args b r K => @eK ⟨⟨P, l, pl, []⟩⟩ ⟨args ++ List.replicate (n - args.length) .undef, b, r⟩ ⟨c⟩ ⟨memQ P rs b.length r.length K⟩) := by
  intro w0 F M b r w vs args K hI hv hk
  have h1 := HOk.ofBody (E := mkEnv l) (pl := pl) (env_ok hl) hm hf hn hb hdr (K := fun o b1 r1 => @vK b.length r.length o b1 r1 ⟨K⟩) hI hv (by
    have e : (fun (e : Ex) (st : St) => (match e with
      | .normal => resK P st rs.toArray.toList fun vs => @vK b.length r.length (.ret (oneV vs)) st.b st.r ⟨K⟩
      | .ret => resK P st rs.toArray.toList fun vs => @vK b.length r.length (.ret (oneV vs)) st.b st.r ⟨K⟩
      | .panic x => @vK b.length r.length (.panic x) st.b st.r ⟨K⟩
      | .exit _ => False : Prop)) = memQ P rs b.length r.length K := by
      funext e st
      cases e <;> rfl
    show bodyK P (mkEnv l) pl fn c args b r _
    unfold bodyK
    rw [hnt, hrs]
    exact e ▸ hk)
  exact ⟨h1.1, Calls.mono h1.2 fun e w' he => EndQ_cut hI he⟩

theorem eK_rounds {cx : Kt Cx} {st : St} {Q : Kt (Ex → St → Prop)} {x : Code} {α : Type} (ks : List Nat) (I : α → Prop) (ch : α → List (Nat × AV)) (bs : α → List (Nat × List AV)) (rs : α → List (Nat × Arr)) (μ : α → Nat) (a0 : α)
    (hI : I a0) (h0 : st.le (st.head ks (ch a0) (bs a0) (rs a0)))
    (h : ∀ a, I a → @eK cx (st.head ks (ch a) (bs a) (rs a)) ⟨x⟩ ⟨fun e s => match e with
      | .normal => ∃ a', I a' ∧ μ a' < μ a ∧ s.le (st.head ks (ch a') (bs a') (rs a'))
      | e => Q.v e s⟩) : @eK cx st ⟨.loop x⟩ Q := evalK_rounds ks I ch bs rs μ a0 hI h0 h

/-! ### rows of bytes -/
theorem byteCell_len (b : UInt8) : (byteCell b).length = 1 := rfl
theorem bytesD_nil : bytesD [] = some [] := rfl
theorem bytesD_map (l : List UInt8) : bytesD (l.map byteCell) = some l := by
  induction l with
  | nil => rfl
  | cons x l ih =>
    simp only [List.map_cons, byteCell, bytesD, ih, Option.map_some]
    congr 2
    simp
theorem map_take' {α β : Type} (f : α → β) (l : List α) (n : Nat) : (l.map f).take n = (l.take n).map f := List.map_take.symm
theorem map_drop' {α β : Type} (f : α → β) (l : List α) (n : Nat) : (l.map f).drop n = (l.drop n).map f := List.map_drop.symm
theorem map_append' {α β : Type} (f : α → β) (l m : List α) : l.map f ++ m.map f = (l ++ m).map f := List.map_append.symm
theorem forall_map' {α β : Type} (f : α → β) (p : β → Prop) (l : List α) : (∀ e ∈ l.map f, p e) = ∀ x ∈ l, p (f x) := by simp
end Go.PE
