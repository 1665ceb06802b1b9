/- The evaluator: rules by which it is run (see PeQ). -/
import Derived.Test.YtkgkpmdbcjelfaaPeV
set_option linter.unusedVariables false
set_option linter.unusedSimpArgs false
namespace Go.PE
open Go

theorem evalK_c {P : Program} {E : Env} {pl : Nat → List (Nat × Bool × List Nat)} {c : Code} {st st' : St} {Q : Ex → St → Prop} (h : st = st') : evalK P E pl c st Q = evalK P E pl c st' Q := by rw [h]
theorem opsK_c {P : Program} {E : Env} {L l : List Oper} {G G' : List (Nat × Bool)} {st st' : St} {K : St → Prop} {KP : AV → St → Prop} (h : st = st') (hG : G = G') : opsK P E L l G st K KP = opsK P E L l G' st' K KP := by rw [h, hG]
theorem opK_c {P : Program} {E : Env} {L : List Oper} {o : Oper} {G : List (Nat × Bool)} {st : St} {K : List (Nat × Bool) → St → Prop} {KP : AV → St → Prop} : opK P E L o G st K KP = opK P E L o G st K KP := rfl
theorem runK_c {E : Env} {R R' : Res} {K KP : AV → St → Prop} (h : R = R') : runK E R K KP = runK E R' K KP := by rw [h]
theorem guardK_c {P : Program} {E : Env} {o : Oper} {gd : Tmp} {x x' pol : Bool} {R R' : Res} {G : List (Nat × Bool)} {st : St} {K : List (Nat × Bool) → St → Prop} {KP : AV → St → Prop} (h : R = R') (hx : x = x') :
    guardK P E o gd x pol R G st K KP = guardK P E o gd x' pol R' G st K KP := by rw [h, hx]
theorem elemG_c {g g' : Bool} {es es' : List (List D)} {k k' n : Nat} {F : List D → Prop} (h : g = g') (h1 : es = es') (h2 : k = k') : elemG g es k n F = elemG g' es' k' n F := by rw [h, h1, h2]
theorem elemK_c {es es' : List (List D)} {k k' n : Nat} {F : List D → Prop} (h1 : es = es') (h2 : k = k') : elemK es k n F = elemK es' k' n F := by rw [h1, h2]
theorem byteK_c {s s' : List UInt8} {k k' : Nat} {F : UInt8 → Prop} (h1 : s = s') (h2 : k = k') : byteK s k F = byteK s' k' F := by rw [h1, h2]
theorem outK_c {r r' : List Arr} {v v' : AV} {F : AV → Prop} (h : r = r') (hv : v = v') : outK r v F = outK r' v' F := by rw [h, hv]

theorem valid_nil (d : Nat) : valid [] d = True := by simp [valid]
theorem valid_cons (e : Nat) (g : Bool) (G : List (Nat × Bool)) (d : Nat) : valid ((e, g) :: G) d = ((e = d → g = true) ∧ valid G d) := by simp [valid]
theorem needL_nil (G : List (Nat × Bool)) : needL G [] = True := by simp [needL]
theorem needL_cons (G : List (Nat × Bool)) (x : Operand) (l : List Operand) : needL G (x :: l) = (validO G x ∧ needL G l) := by simp [needL]
theorem validO_nil (x : Operand) : validO [] x = True := by cases x <;> simp [validO, valid]
theorem need_nil (o : Op) (st : St) : need [] o st = True := by
  have h : ∀ xs, needL [] xs = True := fun xs => by simp only [needL, validO_nil, implies_true]
  unfold need
  split
  · split
    · simp [validO_nil]
    · exact h _
  · exact h _
def needU (G : List (Nat × Bool)) (o : Op) (st : St) : Prop := need G o st
theorem need_cons (p : Nat × Bool) (G : List (Nat × Bool)) (o : Op) (st : St) : need (p :: G) o st = needU (p :: G) o st := rfl
theorem needU_pick (G : List (Nat × Bool)) (c a b : Operand) (st : St) : needU G (.pick c a b) st = (match st.ev c with
    | .d (.bool e) => validO G c ∧ (e = true → validO G a) ∧ (e = false → validO G b)
    | _ => needL G [c, a, b]) := rfl
theorem needU_of (G : List (Nat × Bool)) (o : Op) (st : St) (h : match o with | .pick _ _ _ => False | _ => True) : needU G o st = needL G o.operands.toList := by
  unfold needU need
  split
  · exact h.elim
  · rfl
theorem ite_boolA (c : Prop) [Decidable c] (x y : Bool) : (if c then AV.d (.bool x) else AV.d (.bool y)) = AV.d (.bool (if c then x else y)) := by split <;> rfl
theorem ite_and (x y : Bool) : (if x = true then y else x) = (x && y) := by cases x <;> rfl
theorem ite_or (x y : Bool) : (if x = true then x else y) = (x || y) := by cases x <;> rfl
theorem ite_and' (x y : Bool) : (if x = true then y else false) = (x && y) := by cases x <;> rfl
theorem ite_or' (x y : Bool) : (if x = true then true else y) = (x || y) := by cases x <;> rfl
theorem elemK_map {α : Type} (enc : α → List D) (l : List α) (k n : Nat) (F : List D → Prop) : elemK (l.map enc) k n F = ∀ x, l[k]? = some x → (enc x).length = n ∧ F (enc x) := by
  simp [elemK]
/-- An element behind a guard, where the row is the image of another. -/
theorem elemG_map {α : Type} [Inhabited α] (g : Bool) (enc : α → List D) (l : List α) (k n : Nat) (F : List D → Prop) (h : (g = true → (enc (l.getD k default)).length = n) ∧ F (enc (l.getD k default))) : elemG g (l.map enc) k n F := by
  refine ⟨enc (l.getD k default), fun y hy => ?_, h.1, h.2⟩
  simp only [List.getElem?_map, Option.map_eq_some_iff] at hy
  obtain ⟨x, hx, rfl⟩ := hy
  simp [List.getD, hx]
theorem gval_eq (L : List Oper) (st : St) (g : Nat) (o : Oper) (d : Tmp) (x : Bool) (h1 : L[g]? = some o) (h2 : o.dst = some d) (h3 : st.t.getD d .undef = .d (.bool x)) : gval L st g = some (d, x) := by
  have hlt : d < st.t.length := by
    rcases Nat.lt_or_ge d st.t.length with h | h
    · exact h
    · simp [List.getD, List.getElem?_eq_none h] at h3
  simp only [gval, h1, h2, h3, if_pos hlt]

section
variable {P : Program} {E : Env} {pl : Nat → List (Nat × Bool × List Nat)} {st : St} {Q : Ex → St → Prop}
theorem evalK_skip : evalK P E pl .skip st Q = Q .normal st := rfl
theorem evalK_label (l : Nat) : evalK P E pl (.label l) st Q = Q .normal st := rfl
theorem evalK_seq (x y : Code) : evalK P E pl (.seq x y) st Q = evalK P E pl x st fun e st => match e with
    | .normal => evalK P E pl y st Q
    | e => Q e st := rfl
def condK (v : AV) (T F : Prop) : Prop := match v with | .d (.bool e) => (e = true → T) ∧ (e = false → F) | _ => False
theorem evalK_cond (c : Operand) (x y : Code) : evalK P E pl (.cond c x y) st Q = condK (st.ev c) (evalK P E pl x st Q) (evalK P E pl y st Q) := rfl
theorem condK_true (T F : Prop) : condK (.d (.bool true)) T F = T := by simp [condK]
theorem condK_false (T F : Prop) : condK (.d (.bool false)) T F = F := by simp [condK]
theorem condK_bool (e : Bool) (T F : Prop) : condK (.d (.bool e)) T F = ((e = true → T) ∧ (e = false → F)) := rfl
theorem condK_c {v v' : AV} {T F : Prop} (h : v = v') : condK v T F = condK v' T F := by rw [h]
theorem evalK_block (id : Nat) (x : Code) : evalK P E pl (.block id x) st Q = evalK P E pl x st fun e st => match e with
    | .exit i => if i = id then Q .normal st else Q (.exit i) st
    | e => Q e st := rfl
theorem evalK_exit (i : Nat) : evalK P E pl (.exit i) st Q = Q (.exit i) st := rfl
theorem evalK_ret : evalK P E pl .ret st Q = Q .ret st := rfl
theorem evalK_region (id : Nat) (l : List Oper) : evalK P E pl (.region id l.toArray false) st Q = opsK P E l l [] st (fun st => Q .normal st) fun x st => Q (.panic x) st := rfl
theorem evalK_drawn (id : Nat) (l : List Oper) : evalK P E pl (.region id l.toArray true) st Q = planK P E l (pl id) [] st (fun st => Q .normal st) fun x st => Q (.panic x) st := rfl
theorem planK_c {L : List Oper} {l l' : List (Nat × Bool × List Nat)} {G G' : List (Nat × Bool)} {st' : St} {K : St → Prop} {KP : AV → St → Prop} (hl : l = l') (h : st = st') (hG : G = G') : planK P E L l G st K KP = planK P E L l' G' st' K KP := by rw [h, hG, hl]
def stillW (R : Res) (nd : Prop) (g : Bool) (st : St) (F : AV → Prop) : Prop :=
  match R with
  | .ok p v st' => (g = true → nd ∧ p) ∧ (st'.b = st.b ∧ st'.r = st.r) ∧ F v
  | .elem p es k n st' => (g = true → nd ∧ p) ∧ (st'.b = st.b ∧ st'.r = st.r) ∧ elemG g es k n fun y => F (.cptr y)
  | .byte p s k st' => (g = true → nd ∧ p) ∧ (st'.b = st.b ∧ st'.r = st.r) ∧ F (.d (.int .u8 ((s.getD k 0).toNat : Int)))
  | _ => g = false ∧ F .undef
theorem stillV_eq (o : Oper) (g : Bool) (G : List (Nat × Bool)) (F : AV → Prop) : stillV P o g G st F = stillW (opR P o st) (need G o.op st) g st F := rfl
theorem stillW_c {R R' : Res} {nd nd' : Prop} {g g' : Bool} {F : AV → Prop} (h : R = R') (hn : nd = nd') (hg : g = g') : stillW R nd g st F = stillW R' nd' g' st F := by rw [h, hn, hg]
theorem stillK_eq (L : List Oper) (o : Oper) (G : List (Nat × Bool)) (K : List (Nat × Bool) → St → Prop) : stillK P L o G st K = (match o.guard with
  | none => stillV P o true G st fun v => K G (st.put o.dst v)
  | some (gi, pol) => match gval L st gi with
    | some (gd, x) => valid G gd ∧ stillV P o (x == pol) G st fun v => K (addG o.dst (x == pol) G) (st.put o.dst v)
    | none => False) := rfl

theorem evalK_loop {x : Code} {α : Type} (I : α → Prop) (S : α → St) (μ : α → Nat) (a0 : α) (hI : I a0) (h0 : st.le (S a0)) (hlen : ∀ a, I a → (S a).b.length = st.b.length ∧ (S a).r.length = st.r.length)
    (h : ∀ a, I a → evalK P E pl x (S a) fun e s => match e with
      | .normal => ∃ a', I a' ∧ μ a' < μ a ∧ s.le (S a')
      | e => Q e s) : evalK P E pl (.loop x) st Q := by
  refine ⟨{ a : α // I a }, fun a => S a.1, fun a => μ a.1, ⟨a0, hI⟩, h0, fun a => hlen a.1 a.2, fun a => ?_⟩
  have e : (fun (e : Ex) (st : St) => (match e with
      | .normal => ∃ a', I a' ∧ μ a' < μ a.1 ∧ st.le (S a')
      | e => Q e st : Prop)) = fun e st => match e with
      | .normal => ∃ a' : { a : α // I a }, μ a'.1 < μ a.1 ∧ st.le (S a'.1)
      | e => Q e st := by
    funext e st
    cases e with
    | normal => exact propext ⟨fun ⟨a', h1, h2, h3⟩ => ⟨⟨a', h1⟩, h2, h3⟩, fun ⟨⟨a', h1⟩, h2, h3⟩ => ⟨a', h1, h2, h3⟩⟩
    | _ => rfl
  have := h a.1 a.2
  rw [e] at this
  exact this
end

/-- What a loop keeps and what it changes. -/
def keepT (ks : List Nat) : Nat → List AV → List AV
  | _, [] => []
  | i, v :: l => (if ks.contains i then v else .undef) :: keepT ks (i + 1) l
def setAll {α : Type} (t : List α) : List (Nat × α) → List α
  | [] => t
  | (i, v) :: l => setAll (t.set i v) l
def St.head (st : St) (ks : List Nat) (ch : List (Nat × AV)) (bs : List (Nat × List AV)) (rs : List (Nat × Arr)) : St := ⟨setAll (keepT ks 0 st.t) ch, setAll st.b bs, setAll st.r rs⟩

theorem setAll_len {α : Type} : ∀ (l : List (Nat × α)) (t : List α), (setAll t l).length = t.length
  | [], _ => rfl
  | (i, v) :: l, t => by rw [setAll, setAll_len l]; simp
theorem le_eq (st s : St) : st.le s = (leV st.t s.t ∧ leB st.b s.b ∧ leR st.r s.r ∧ idsL s.b.length s.r.length s.t = true ∧ idsB s.b.length s.r.length s.b = true) :=
  propext ⟨fun h => ⟨h.t, h.b, h.r, h.it, h.ib⟩, fun h => ⟨h.1, h.2.1, h.2.2.1, h.2.2.2.1, h.2.2.2.2⟩⟩
/-- A loop: ks: the temporaries that stay as they are; ch, bs, rs: the temporaries, boxes and rows that the rounds change. -/
theorem evalK_rounds {P : Program} {E : Env} {pl : Nat → List (Nat × Bool × List Nat)} {st : St} {Q : Ex → St → Prop} {x : Code} {α : Type} (ks : List Nat) (I : α → Prop) (ch : α → List (Nat × AV)) (bs : α → List (Nat × List AV)) (rs : α → List (Nat × Arr)) (μ : α → Nat) (a0 : α)
    (hI : I a0) (h0 : st.le (st.head ks (ch a0) (bs a0) (rs a0)))
    (h : ∀ a, I a → evalK P E pl x (st.head ks (ch a) (bs a) (rs a)) fun e s => match e with
      | .normal => ∃ a', I a' ∧ μ a' < μ a ∧ s.le (st.head ks (ch a') (bs a') (rs a'))
      | e => Q e s) : evalK P E pl (.loop x) st Q :=
  evalK_loop I (fun a => st.head ks (ch a) (bs a) (rs a)) μ a0 hI h0 (fun a _ => ⟨setAll_len _ _, setAll_len _ _⟩) (fun a ha => h a ha)

theorem stillK_c {P : Program} {L : List Oper} {o : Oper} {G : List (Nat × Bool)} {st : St} {K : List (Nat × Bool) → St → Prop} : stillK P L o G st K = stillK P L o G st K := rfl
theorem stillV_c {P : Program} {o : Oper} {g g' : Bool} {G : List (Nat × Bool)} {st : St} {F : AV → Prop} (h : g = g') : stillV P o g G st F = stillV P o g' G st F := by rw [h]
theorem splitK_c {P : Program} {E : Env} {o : Oper} {gd : Tmp} {x x' pol : Bool} {G : List (Nat × Bool)} {st : St} {K : List (Nat × Bool) → St → Prop} {KP : AV → St → Prop} (h : x = x') : splitK P E o gd x pol G st K KP = splitK P E o gd x' pol G st K KP := by rw [h]
theorem resK_c {P : Program} {st st' : St} {l : List ResultVar} {K : List AV → Prop} (h : st = st') : resK P st l K = resK P st' l K := by rw [h]

/-! ### rules without open matches: what follows is not looked into before it is reached -/
def optK {α : Type} (x : Option α) (F : α → Prop) : Prop := match x with | some o => F o | none => False
theorem optK_some {α : Type} (o : α) (F : α → Prop) : optK (some o) F = F o := rfl
theorem optK_none {α : Type} (F : α → Prop) : optK none F = False := rfl
theorem optK_c {α : Type} {x x' : Option α} {F : α → Prop} (h : x = x') : optK x F = optK x' F := by rw [h]
section
variable {P : Program} {E : Env} {L : List Oper} {G : List (Nat × Bool)} {st : St} {K : List (Nat × Bool) → St → Prop} {KP : AV → St → Prop}
theorem planK_nil (K : St → Prop) : planK P E L [] G st K KP = K (clean G st) := rfl
theorem planK_do (i : Nat) (rc : List Nat) (l : List (Nat × Bool × List Nat)) (K : St → Prop) : planK P E L ((i, true, rc) :: l) G st K KP = optK L[i]? fun o => opK P E L o G st (fun G st => pendL P L G st rc ∧ planK P E L l G st K KP) KP := by
  simp only [planK, optK]
  cases L[i]? <;> rfl
theorem planK_look (i : Nat) (rc : List Nat) (l : List (Nat × Bool × List Nat)) (K : St → Prop) : planK P E L ((i, false, rc) :: l) G st K KP = optK L[i]? fun o => stillK P L o G st (fun G st => planK P E L l G st K KP) := by
  simp only [planK, optK]
  cases L[i]? <;> rfl
theorem opsK_nil (K : St → Prop) : opsK P E L [] G st K KP = K (clean G st) := rfl
theorem opsK_cons (o : Oper) (l : List Oper) (K : St → Prop) : opsK P E L (o :: l) G st K KP = opK P E L o G st (fun G st => opsK P E L l G st K KP) KP := rfl
theorem opK_free (d : Option Tmp) (op : Op) (ty : TypeId) (p : String) (ar : Array Edge) : opK P E L ⟨d, op, ty, p, ar, none⟩ G st K KP = (need G op st ∧ runK E (opR P ⟨d, op, ty, p, ar, none⟩ st) (fun v st => K G (st.put d v)) KP) := rfl
theorem opK_guard (d : Option Tmp) (op : Op) (ty : TypeId) (p : String) (ar : Array Edge) (gi : Nat) (pol : Bool) : opK P E L ⟨d, op, ty, p, ar, some (gi, pol)⟩ G st K KP =
    optK (gval L st gi) fun q => valid G q.1 ∧ guardK P E ⟨d, op, ty, p, ar, some (gi, pol)⟩ q.1 q.2 pol (opR P ⟨d, op, ty, p, ar, some (gi, pol)⟩ st) G st K KP := by
  simp only [opK, optK]
  cases gval L st gi <;> rfl
theorem stillK_free (d : Option Tmp) (op : Op) (ty : TypeId) (p : String) (ar : Array Edge) : stillK P L ⟨d, op, ty, p, ar, none⟩ G st K = stillW (opR P ⟨d, op, ty, p, ar, none⟩ st) (need G op st) true st fun v => K G (st.put d v) := rfl
theorem stillK_guard (d : Option Tmp) (op : Op) (ty : TypeId) (p : String) (ar : Array Edge) (gi : Nat) (pol : Bool) : stillK P L ⟨d, op, ty, p, ar, some (gi, pol)⟩ G st K =
    optK (gval L st gi) fun q => valid G q.1 ∧ stillW (opR P ⟨d, op, ty, p, ar, some (gi, pol)⟩ st) (need G op st) (q.2 == pol) st fun v => K (addG d (q.2 == pol) G) (st.put d v) := by
  simp only [stillK, optK]
  cases gval L st gi <;> rfl
theorem stillW_ok (p nd : Prop) (v : AV) (st' : St) (g : Bool) (F : AV → Prop) : stillW (.ok p v st') nd g st F = ((g = true → nd ∧ p) ∧ (st'.b = st.b ∧ st'.r = st.r) ∧ F v) := rfl
theorem stillW_elem (p nd : Prop) (es : List (List D)) (k n : Nat) (st' : St) (g : Bool) (F : AV → Prop) : stillW (.elem p es k n st') nd g st F = ((g = true → nd ∧ p) ∧ (st'.b = st.b ∧ st'.r = st.r) ∧ elemG g es k n fun y => F (.cptr y)) := rfl
theorem stillW_byte (p nd : Prop) (s : List UInt8) (k : Nat) (st' : St) (g : Bool) (F : AV → Prop) : stillW (.byte p s k st') nd g st F = ((g = true → nd ∧ p) ∧ (st'.b = st.b ∧ st'.r = st.r) ∧ F (.d (.int .u8 ((s.getD k 0).toNat : Int)))) := rfl
theorem stillW_fail (nd : Prop) (g : Bool) (F : AV → Prop) : stillW .fail nd g st F = (g = false ∧ F .undef) := rfl

variable (o : Oper) (gd : Tmp) (x pol : Bool)
theorem guardK_ok (h : stillOp o.op = true) (p : Prop) (v : AV) (st' : St) : guardK P E o gd x pol (.ok p v st') G st K KP = (((x == pol) = true → need G o.op st ∧ p) ∧ (st'.b = st.b ∧ st'.r = st.r) ∧ K (addG o.dst (x == pol) G) (st.put o.dst v)) := by
  unfold guardK; rw [h]
theorem guardK_elem (h : stillOp o.op = true) (p : Prop) (es : List (List D)) (k n : Nat) (st' : St) : guardK P E o gd x pol (.elem p es k n st') G st K KP = (((x == pol) = true → need G o.op st ∧ p) ∧ (st'.b = st.b ∧ st'.r = st.r) ∧ elemG (x == pol) es k n fun y => K (addG o.dst (x == pol) G) (st.put o.dst (.cptr y))) := by
  unfold guardK; rw [h]
theorem guardK_byte (h : stillOp o.op = true) (p : Prop) (s : List UInt8) (k : Nat) (st' : St) : guardK P E o gd x pol (.byte p s k st') G st K KP = (((x == pol) = true → need G o.op st ∧ p) ∧ (st'.b = st.b ∧ st'.r = st.r) ∧ K (addG o.dst (x == pol) G) (st.put o.dst (.d (.int .u8 ((s.getD k 0).toNat : Int))))) := by
  unfold guardK; rw [h]
def detK (h : Option Det) (ds : Option (List D)) (F : Prop × AV → Prop) (S : Prop) : Prop := match h, ds with | some h, some ds => F (h ds) | _, _ => S
theorem detK_some (h : Det) (ds : List D) (F : Prop × AV → Prop) (S : Prop) : detK (some h) (some ds) F S = F (h ds) := rfl
theorem detK_none (ds : Option (List D)) (F : Prop × AV → Prop) (S : Prop) : detK none ds F S = S := by cases ds <;> rfl
theorem detK_none' (h : Option Det) (F : Prop × AV → Prop) (S : Prop) : detK h none F S = S := by cases h <;> rfl
theorem detK_c {h h' : Option Det} {ds ds' : Option (List D)} {F : Prop × AV → Prop} {S : Prop} (e : h = h') (e' : ds = ds') : detK h ds F S = detK h' ds' F S := by rw [e, e']
theorem guardK_call (h : stillOp o.op = true) (f : FuncId) (args : List AV) (st' : St) : guardK P E o gd x pol (.call f args st') G st K KP =
    detK (E.Dt f) (allD args) (fun q => ((x == pol) = true → need G o.op st ∧ q.1) ∧ K (addG o.dst (x == pol) G) (st.put o.dst q.2)) (splitK P E o gd x pol G st K KP) := by
  unfold guardK detK
  rw [h]
  dsimp only
  cases E.Dt f <;> cases allD args <;> rfl
theorem guardK_fail : guardK P E o gd x pol .fail G st K KP = splitK P E o gd x pol G st K KP := by
  unfold guardK
  cases stillOp o.op <;> rfl
theorem guardK_panic (v : AV) (st' : St) : guardK P E o gd x pol (.panic v st') G st K KP = splitK P E o gd x pol G st K KP := by
  unfold guardK
  cases stillOp o.op <;> rfl
theorem guardK_not (h : stillOp o.op = false) (R : Res) : guardK P E o gd x pol R G st K KP = splitK P E o gd x pol G st K KP := by
  unfold guardK
  rw [h]
theorem splitK_eq : splitK P E o gd x pol G st K KP = ((x = pol → need G o.op (st.put (some gd) (.d (.bool pol))) ∧ runK E (opR P o (st.put (some gd) (.d (.bool pol)))) (fun v st => K G (st.put o.dst v)) KP) ∧
  (x = !pol → K G ((st.put (some gd) (.d (.bool !pol))).put o.dst .undef))) := rfl
end
section
variable {E : Env} {K KP : AV → St → Prop}
theorem runK_ok (p : Prop) (v : AV) (st : St) : runK E (.ok p v st) K KP = (p ∧ K v st) := rfl
theorem runK_elem (p : Prop) (es : List (List D)) (k n : Nat) (st : St) : runK E (.elem p es k n st) K KP = (p ∧ elemK es k n fun x => K (.cptr x) st) := rfl
theorem runK_byte (p : Prop) (s : List UInt8) (k : Nat) (st : St) : runK E (.byte p s k st) K KP = (p ∧ byteK s k fun c => K (.d (.int .u8 (c.toNat : Int))) st) := rfl
theorem runK_fail : runK E .fail K KP = False := rfl
theorem runK_panic (x : AV) (st : St) : runK E (.panic x st) K KP = KP x st := rfl
def afterC (st : St) (K KP : AV → St → Prop) (o : Out) (b : List (List AV)) (r : List Arr) : Prop := match o with
  | .ret x => K x { st with b := b, r := r }
  | .panic x => KP x { st with b := b, r := r }
theorem afterC_ret (st : St) (x : AV) (b : List (List AV)) (r : List Arr) : afterC st K KP (.ret x) b r = K x { st with b := b, r := r } := rfl
theorem afterC_panic (st : St) (x : AV) (b : List (List AV)) (r : List Arr) : afterC st K KP (.panic x) b r = KP x { st with b := b, r := r } := rfl
theorem afterC_c {st st' : St} {o o' : Out} {b b' : List (List AV)} {r r' : List Arr} (h : st = st') (h1 : o = o') (h2 : b = b') (h3 : r = r') : afterC st K KP o b r = afterC st' K KP o' b' r' := by rw [h, h1, h2, h3]
theorem runK_call (l : List (FuncId × Known)) (f : FuncId) (args : List AV) (st : St) : runK (mkEnv l) (.call f args st) K KP = optK (lookK l f) fun k => k.H args st.b st.r (afterC st K KP) := by
  show hOf (lookK l f) args st.b st.r _ = _
  cases lookK l f with
  | none => rfl
  | some k => rfl
theorem dt_eq (l : List (FuncId × Known)) (f : FuncId) : (mkEnv l).Dt f = dOf (lookK l f) := rfl
theorem dOf_some (k : Known) : dOf (some k) = k.Dt := rfl
theorem dOf_none : dOf none = none := rfl
theorem Dt_det (h : Det) : (Known.det h).Dt = some h := rfl
theorem Dt_spec (s : Spec) : (Known.spec s).Dt = none := rfl
theorem Dt_raw (h : Handler) : (Known.raw h).Dt = none := rfl
variable {args : List AV} {b : List (List AV)} {r : List Arr} {Kh : Out → List (List AV) → List Arr → Prop}
theorem H_det (h : Det) : (Known.det h).H args b r Kh = optK (toDL r args) fun ds => (h ds).1 ∧ Kh (.ret (h ds).2) b (share r (arrIdsL args)) := by
  show specH h.spec args b r Kh = _
  unfold specH optK
  cases toDL r args <;> rfl
theorem H_spec (s : Spec) : (Known.spec s).H args b r Kh = optK (toDL r args) fun ds => s ds fun o => Kh o b (share r (arrIdsL args)) := by
  show specH s args b r Kh = _
  unfold specH optK
  cases toDL r args <;> rfl
theorem H_raw (h : Handler) : (Known.raw h).H args b r Kh = h args b r Kh := rfl
theorem H_mem (h : Handler) : (Known.mem h).H args b r Kh = frameH h args b r Kh := rfl
theorem Dt_mem (h : Handler) : (Known.mem h).Dt = none := rfl
theorem Kh_c {k : Known} {args args' : List AV} {b b' : List (List AV)} {r r' : List Arr} (h1 : args = args') (h2 : b = b') (h3 : r = r') : k.H args b r Kh = k.H args' b' r' Kh := by rw [h1, h2, h3]
end

theorem ite_dec_f (c : Prop) [Decidable c] (b : Bool) : (if c then b else false) = (decide c && b) := by by_cases h : c <;> simp [h]
theorem ite_dec_t (c : Prop) [Decidable c] (b : Bool) : (if c then true else b) = (decide c || b) := by by_cases h : c <;> simp [h]
theorem rng0 : (([] : List Nat) = List.range 0) = True := by simp [List.range, List.range.loop]
theorem rng1 : (([0] : List Nat) = List.range 1) = True := by simp [List.range, List.range.loop]
theorem rng2 : (([0, 1] : List Nat) = List.range 2) = True := by simp [List.range, List.range.loop]
theorem rng3 : (([0, 1, 2] : List Nat) = List.range 3) = True := by simp [List.range, List.range.loop]
theorem rng4 : (([0, 1, 2, 3] : List Nat) = List.range 4) = True := by simp [List.range, List.range.loop]
theorem rng5 : (([0, 1, 2, 3, 4] : List Nat) = List.range 5) = True := by simp [List.range, List.range.loop]
theorem rng6 : (([0, 1, 2, 3, 4, 5] : List Nat) = List.range 6) = True := by simp [List.range, List.range.loop]
theorem rng7 : (([0, 1, 2, 3, 4, 5, 6] : List Nat) = List.range 7) = True := by simp [List.range, List.range.loop]
theorem rng8 : (([0, 1, 2, 3, 4, 5, 6, 7] : List Nat) = List.range 8) = True := by simp [List.range, List.range.loop]
theorem opsB (b : Builtin) (args : List Operand) (ats : Array TypeId) : (Call.mk (.builtin b) args.toArray ats).operands.toList = args := by simp [Call.operands]
theorem opsV (f : Operand) (args : List Operand) (ats : Array TypeId) : (Call.mk (.value f) args.toArray ats).operands.toList = f :: args := by simp [Call.operands]
theorem opsI (r : Operand) (n : String) (args : List Operand) (ats : Array TypeId) : (Call.mk (.invoke r n) args.toArray ats).operands.toList = r :: args := by simp [Call.operands]
theorem opsS (x : Operand) (l h m : Option Operand) : (#[x] ++ l.toArray ++ h.toArray ++ m.toArray).toList = x :: (l.toList ++ h.toList ++ m.toList) := by cases l <;> cases h <;> cases m <;> rfl
theorem optL_none : (none : Option Operand).toList = [] := rfl
theorem optL_some (x : Operand) : (some x).toList = [x] := rfl
theorem get0 {α : Type} (a0 x : α) (l : List α) : (a0 :: l).getD 0 x = a0 := rfl
theorem elm0 {α : Type} (a0 : α) (l : List α) : (a0 :: l)[0]? = some a0 := rfl
theorem set0 {α : Type} (a0 x : α) (l : List α) : (a0 :: l).set 0 x = x :: l := rfl
theorem get1 {α : Type} (a0 a1 x : α) (l : List α) : (a0 :: a1 :: l).getD 1 x = a1 := rfl
theorem elm1 {α : Type} (a0 a1 : α) (l : List α) : (a0 :: a1 :: l)[1]? = some a1 := rfl
theorem set1 {α : Type} (a0 a1 x : α) (l : List α) : (a0 :: a1 :: l).set 1 x = a0 :: x :: l := rfl
theorem get2 {α : Type} (a0 a1 a2 x : α) (l : List α) : (a0 :: a1 :: a2 :: l).getD 2 x = a2 := rfl
theorem elm2 {α : Type} (a0 a1 a2 : α) (l : List α) : (a0 :: a1 :: a2 :: l)[2]? = some a2 := rfl
theorem set2 {α : Type} (a0 a1 a2 x : α) (l : List α) : (a0 :: a1 :: a2 :: l).set 2 x = a0 :: a1 :: x :: l := rfl
theorem get3 {α : Type} (a0 a1 a2 a3 x : α) (l : List α) : (a0 :: a1 :: a2 :: a3 :: l).getD 3 x = a3 := rfl
theorem elm3 {α : Type} (a0 a1 a2 a3 : α) (l : List α) : (a0 :: a1 :: a2 :: a3 :: l)[3]? = some a3 := rfl
theorem set3 {α : Type} (a0 a1 a2 a3 x : α) (l : List α) : (a0 :: a1 :: a2 :: a3 :: l).set 3 x = a0 :: a1 :: a2 :: x :: l := rfl
theorem get4 {α : Type} (a0 a1 a2 a3 a4 x : α) (l : List α) : (a0 :: a1 :: a2 :: a3 :: a4 :: l).getD 4 x = a4 := rfl
theorem elm4 {α : Type} (a0 a1 a2 a3 a4 : α) (l : List α) : (a0 :: a1 :: a2 :: a3 :: a4 :: l)[4]? = some a4 := rfl
theorem set4 {α : Type} (a0 a1 a2 a3 a4 x : α) (l : List α) : (a0 :: a1 :: a2 :: a3 :: a4 :: l).set 4 x = a0 :: a1 :: a2 :: a3 :: x :: l := rfl
theorem get5 {α : Type} (a0 a1 a2 a3 a4 a5 x : α) (l : List α) : (a0 :: a1 :: a2 :: a3 :: a4 :: a5 :: l).getD 5 x = a5 := rfl
theorem elm5 {α : Type} (a0 a1 a2 a3 a4 a5 : α) (l : List α) : (a0 :: a1 :: a2 :: a3 :: a4 :: a5 :: l)[5]? = some a5 := rfl
theorem set5 {α : Type} (a0 a1 a2 a3 a4 a5 x : α) (l : List α) : (a0 :: a1 :: a2 :: a3 :: a4 :: a5 :: l).set 5 x = a0 :: a1 :: a2 :: a3 :: a4 :: x :: l := rfl
theorem get6 {α : Type} (a0 a1 a2 a3 a4 a5 a6 x : α) (l : List α) : (a0 :: a1 :: a2 :: a3 :: a4 :: a5 :: a6 :: l).getD 6 x = a6 := rfl
theorem elm6 {α : Type} (a0 a1 a2 a3 a4 a5 a6 : α) (l : List α) : (a0 :: a1 :: a2 :: a3 :: a4 :: a5 :: a6 :: l)[6]? = some a6 := rfl
theorem set6 {α : Type} (a0 a1 a2 a3 a4 a5 a6 x : α) (l : List α) : (a0 :: a1 :: a2 :: a3 :: a4 :: a5 :: a6 :: l).set 6 x = a0 :: a1 :: a2 :: a3 :: a4 :: a5 :: x :: l := rfl
theorem get7 {α : Type} (a0 a1 a2 a3 a4 a5 a6 a7 x : α) (l : List α) : (a0 :: a1 :: a2 :: a3 :: a4 :: a5 :: a6 :: a7 :: l).getD 7 x = a7 := rfl
theorem elm7 {α : Type} (a0 a1 a2 a3 a4 a5 a6 a7 : α) (l : List α) : (a0 :: a1 :: a2 :: a3 :: a4 :: a5 :: a6 :: a7 :: l)[7]? = some a7 := rfl
theorem set7 {α : Type} (a0 a1 a2 a3 a4 a5 a6 a7 x : α) (l : List α) : (a0 :: a1 :: a2 :: a3 :: a4 :: a5 :: a6 :: a7 :: l).set 7 x = a0 :: a1 :: a2 :: a3 :: a4 :: a5 :: a6 :: x :: l := rfl
theorem get8 {α : Type} (a0 a1 a2 a3 a4 a5 a6 a7 x : α) (l : List α) (n : Nat) : (a0 :: a1 :: a2 :: a3 :: a4 :: a5 :: a6 :: a7 :: l).getD (n + 8) x = l.getD n x := rfl
theorem elm8 {α : Type} (a0 a1 a2 a3 a4 a5 a6 a7 : α) (l : List α) (n : Nat) : (a0 :: a1 :: a2 :: a3 :: a4 :: a5 :: a6 :: a7 :: l)[n + 8]? = l[n]? := rfl
theorem set8 {α : Type} (a0 a1 a2 a3 a4 a5 a6 a7 x : α) (l : List α) (n : Nat) : (a0 :: a1 :: a2 :: a3 :: a4 :: a5 :: a6 :: a7 :: l).set (n + 8) x = a0 :: a1 :: a2 :: a3 :: a4 :: a5 :: a6 :: a7 :: l.set n x := rfl
theorem allS (c : Nat) (p : Nat → Prop) : (∀ d, some c = some d → p d) = p c := propext ⟨fun h => h c rfl, fun h d e => by injection e with e; exact e ▸ h⟩
theorem allN (p : Nat → Prop) : (∀ d, (none : Option Nat) = some d → p d) = True := by simp
end Go.PE
