/- The wp of whole code, as one function by recursion: regions in their text's order, or in any order that their edges allow; tests; loops with what stays true of the slots that live through a round. No condition. The wp of a region is sound, in whatever order its edges allow. No condition. The wp of a region that draws its order is sound. No condition. The wp of a region that draws its order is sound, second part: orders. No condition. The wp of whole code is sound: 'calls_of_body': what a function's body asks makes its call hold. No condition. Short names in which the bodies of functions are written out, what follows last. No condition. -/
import Derived.OrdersHeld
import Derived.Test.YtemenmmekddjaaaGreatDoorJ01
set_option linter.all false
set_option linter.unusedVariables false
set_option linter.unusedSimpArgs false
set_option linter.unnecessarySimpa false
set_option linter.unusedSectionVars false
set_option linter.constructorNameAsVariable false
section
namespace Go.Wx
open Go

/-- the slots, and which of them hold a bool that is written out. -/
structure St where
  ρ : Env
  kn : List Nat
def knows (kn : List Nat) (d : Nat) : Bool := kn.any (Nat.beq d)
def forget (kn : List Nat) (d : Option Nat) : List Nat := match d with
  | some d => kn.filter fun x => !Nat.beq x d
  | none => kn
def knownOp (kn : List Nat) : Operand → Bool
  | .const (.bool _) => true
  | .tmp d => knows kn d
  | _ => false
def St.reset (s : St) : St := ⟨s.ρ, []⟩
def St.putU (s : St) (d : Option Nat) (v : Value) : St := ⟨s.ρ.putO d v, forget s.kn d⟩
def St.putK (s : St) (d : Option Nat) (x : Operand) : St := ⟨s.ρ.putO d (s.ρ.ev x), bif knownOp s.kn x then (match d with | some d => d :: s.kn | none => s.kn) else forget s.kn d⟩
/-- a slot that was passed over holds nothing, and that is known. -/
def St.putS (s : St) (d : Option Nat) : St := ⟨s.ρ.putO d undef, match d with
  | some d => d :: s.kn
  | none => s.kn⟩
def dstOk (N : Nat) : Option Nat → Bool
  | some d => Nat.blt d N
  | none => true
def Split (v : Value) (f : Bool → Prop) : Prop := ∃ b, v = .bool b ∧ (b = true → f true) ∧ (b = false → f false)

section
variable (P : Program) (N : Nat)
def runW (o : Oper) (next : St → World → Prop) (s : St) (w : World) : Prop :=
  bif dstOk N o.dst then
    match o.op with
    | .pick (.tmp d) x y => bif knows s.kn d then (match s.ρ d with
        | .bool b => next (s.putK o.dst (bif b then x else y)) w
        | _ => False) else opW P o s.ρ (fun v w' => next (s.putU o.dst v) w') w
    | .move x => next (s.putK o.dst x) w
    | .assign x => next (s.putK o.dst x) w
    | _ => opW P o s.ρ (fun v w' => next (s.putU o.dst v) w') w
  else False
def skipW (o : Oper) (next : St → World → Prop) (s : St) (w : World) : Prop := bif dstOk N o.dst then next (s.putS o.dst) w else False
/-- an operation with its guard. -/
def guardW (ops : Array Oper) (o : Oper) (run : St → Prop) (skip : St → Prop) (s : St) : Prop :=
  match o.guard with
  | none => run s
  | some (j, want) => match (ops[j]?).bind (·.dst) with
    | none => skip s
    | some d => bif knows s.kn d then (match s.ρ d with
        | .bool b => bif b == want then run s else skip s
        | _ => skip s)
      else bif Nat.blt d N then Split (s.ρ d) (fun b => bif b == want then run ⟨s.ρ.put d (.bool b), d :: s.kn⟩ else skip ⟨s.ρ.put d (.bool b), d :: s.kn⟩) else False
def oneW (ops : Array Oper) (o : Oper) (next : St → World → Prop) (s : St) (w : World) : Prop := guardW N ops o (fun s => runW P N o next s w) (fun s => skipW N o next s w) s
def opsW (ops : Array Oper) (Q : St → World → Prop) : List Oper → St → World → Prop
  | [], s, w => Q s w
  | o :: rest, s, w => oneW P N ops o (opsW ops Q rest) s w

/-! ### a region that draws its order -/
def pureBuiltin (b : Builtin) (args : Array Operand) (argTypes : Array TypeId) : Bool := match b with
  | .len => match (argTypes[0]?).bind P.underlying, args[0]? with
    | some (.slice _), some _ => true
    | some .string, some _ => true
    | some (.array _ _), some _ => true
    | _, _ => false
  | .cap => true
  | .min => true
  | .max => true
  | _ => false
def pureCall (c : Callee) (args : Array Operand) (argTypes : Array TypeId) : Bool := match c with
  | .builtin b => pureBuiltin P b args argTypes
  | _ => false
/-- the operation's value hangs on its operands alone. -/
def pureB (o : Oper) : Bool := match o.op with
  | .move _ | .assign _ | .pick _ _ _ | .nilCheck _ | .unOp _ _ _ | .extract _ _ | .fieldAddr _ _ _ | .field _ _ _ | .indexAddr _ _ _ | .makeFunc _ _ _ | .makeInterface _ _ | .build _ _ => true
  | .binOp op T x y _ => isIntT P T || (eqMode P T op (isC x || isC y)).isSome
  | .convert s d _ => match P.underlying s, P.underlying d with
    | some _, some (.int _) => true
    | _, _ => false
  | .slice T _ _ _ _ => match P.underlying T with
    | some (.slice _) => true
    | _ => false
  | .index T _ _ => match P.underlying T with
    | some (.array _ _) => true
    | _ => false
  | .call c => pureCall P c.callee c.args c.argTypes
  | _ => false
def stillCall (c : Callee) (args : Array Operand) (argTypes : Array TypeId) : Bool := match c with
  | .builtin .len => match (argTypes[0]?).bind P.underlying, args[0]? with
    | some (.map _ _), some _ => true
    | _, _ => false
  | _ => false
/-- it only reads. -/
def stillB (o : Oper) : Bool := match o.op with
  | .load _ _ => true
  | .lookup T _ _ _ => match P.underlying T with
    | some (.map kt _) => match P.underlying kt with
      | some (.int .i64) => true
      | _ => false
    | _ => false
  | .call c => stillCall P c.callee c.args c.argTypes
  | _ => false
def quietB (o : Oper) : Bool := pureB P o || stillB P o
/-- does operation j wait for i, at most n steps on? -/
def depB (ops : Array Oper) (i : Nat) : Nat → Nat → Bool
  | 0, _ => false
  | n + 1, j => match ops[j]? with
    | some o => o.after.toList.any fun e => Region.binds .any e && (Nat.beq e.on i || depB ops i n e.on)
    | none => false
/-- may a read still be to come when operation j is carried out? -/
def sNeed (ops : Array Oper) (j : Nat) : Bool :=
  (List.range ops.size).any fun i => !Nat.beq i j && (match ops[i]? with
    | some o => stillB P o
    | none => false) && !depB ops i 2 j
def pickP (ops : Array Oper) (listed : Array Bool) (r : List Nat) : Option Nat :=
  r.find? fun i => (match ops[i]? with
    | some o => pureB P o
    | none => false) && Region.free .any ops listed i
def pickS (ops : Array Oper) (listed : Array Bool) (r : List Nat) : Option Nat :=
  r.find? fun i => (match ops[i]? with
    | some o => stillB P o
    | none => false) && Region.free .any ops listed i
def AllW (f : Nat → Prop) : List Nat → Prop
  | [] => True
  | i :: r => match r with
    | [] => f i
    | _ :: _ => f i ∧ AllW f r
/-- a read whose answer is one in all worlds of a class. -/
def HeldW (S : World → Prop) (op : (Value → World → Prop) → World → Prop) (k : Value → World → Prop) (w : World) : Prop :=
  S w ∧ ∃ v, (∀ w', S w' → op (fun u w'' => u = v ∧ w'' = w') w') ∧ k v w
def heldRun (S : World → Prop) (o : Oper) (next : St → World → Prop) (w : World) (s : St) : Prop :=
  bif dstOk N o.dst then HeldW S (fun k w => opW P o s.ρ k w) (fun v w' => next (s.putU o.dst v) w') w else False
def drawW (S : World → Prop) (ops : Array Oper) (Q : St → World → Prop) : Nat → Array Bool → St → World → Prop
  | 0, listed, s, w => match Region.ready .any ops listed with
    | [] => Q s w
    | _ :: _ => False
  | f + 1, listed, s, w =>
    match Region.ready .any ops listed with
    | [] => Q s w
    | i0 :: r0 => match pickP P ops listed (i0 :: r0) with
      | some i => (match ops[i]? with
        | some o => oneW P N ops o (drawW S ops Q f (listed.setIfInBounds i true)) s w
        | none => False)
      | none => match pickS P ops listed (i0 :: r0) with
        | some i => (match ops[i]? with
          | some o => guardW N ops o (fun s => heldRun P N S o (drawW S ops Q f (listed.setIfInBounds i true)) w s) (fun s => skipW N o (drawW S ops Q f (listed.setIfInBounds i true)) s w) s
          | none => False)
        | none => AllW (fun i => match ops[i]? with
          | some o => bif pureB P o || stillB P o then False else guardW N ops o
              (fun s => runW P N o (fun s w' => bif sNeed P ops i then (S w' ∧ drawW S ops Q f (listed.setIfInBounds i true) s w') else drawW S ops Q f (listed.setIfInBounds i true) s w') s w)
              (fun s => bif sNeed P ops i then (S w ∧ skipW N o (drawW S ops Q f (listed.setIfInBounds i true)) s w) else skipW N o (drawW S ops Q f (listed.setIfInBounds i true)) s w) s
          | none => False) (i0 :: r0)
/-- is there a read in the region that may have to wait? -/
def anyStill (ops : Array Oper) : Bool := ops.toList.any (stillB P)
def regionW (ops : Array Oper) (draw : Bool) (Q : St → World → Prop) (s : St) (w : World) : Prop :=
  bif draw then (bif Region.noSelect ops && P.follows .mixedOrders then
      (bif anyStill P ops then (∃ S : World → Prop, drawW P N S ops Q ops.size (Array.replicate ops.size false) s { w with drawn := w.drawn + 1 })
        else drawW P N (fun _ => True) ops Q ops.size (Array.replicate ops.size false) s { w with drawn := w.drawn + 1 }) else False)
  else opsW P N ops Q ops.toList s w
end

/-! ### the code -/
def modsO (ops : List Oper) : List Nat := ops.flatMap fun o => o.dst.toList ++ (match o.guard with
  | some (_, _) => []
  | none => [])
def mods : Code → List Nat
  | .region _ ops _ => modsO ops.toList
  | .seq a b => mods a ++ mods b
  | .cond _ a b => mods a ++ mods b
  | .block _ b => mods b
  | .loop b => mods b
  | .scope b => mods b
  | _ => []
def firstReg : Code → Nat
  | .region id _ _ => id
  | .seq a _ => firstReg a
  | .cond _ a _ => firstReg a
  | .block _ b => firstReg b
  | .loop b => firstReg b
  | .scope b => firstReg b
  | _ => 0
def nLoops : Code → Nat
  | .seq a b => nLoops a + nLoops b
  | .cond _ a b => nLoops a + nLoops b
  | .block _ b => nLoops b
  | .loop b => nLoops b + 1
  | .scope b => nLoops b
  | _ => 0
/-- a loop's number in its function. -/
def loopKey (body : Code) : Nat := firstReg body + 1000 * nLoops body
def liveOf (lv : List (Nat × List Nat)) (i : Nat) : List Nat := match lv.find? fun p => Nat.beq p.1 i with
  | some p => p.2
  | none => []
def havocL : List Nat → Nat → List Value → Env → Env
  | [], _, _, ρ => ρ
  | t :: L, i, vs, ρ => (havocL L (i + 1) vs ρ).put t (vs.getD i undef)
def havoc (M L : List Nat) (J : Nat → Value) (vs : List Value) (ρ : Env) : Env := havocL L 0 vs (fun t => bif knows M t then J t else ρ t)
def LoopW (ini : List Value) (w : World) (body : (Nat → Value) → List Value → (List Value → World → Prop) → World → Prop) : Prop :=
  ∃ I : Nat → List Value → World → Prop, (∃ n, I n ini w) ∧ ∀ J n vs w, I n vs w → body J vs (fun vs' w' => ∃ m, m < n ∧ I m vs' w') w
/-- code that may jump back to a label. -/
def JumpW (first : (List Value → World → Prop) → Prop) (pass : (Nat → Value) → List Value → (List Value → World → Prop) → World → Prop) : Prop :=
  ∃ I : Nat → List Value → World → Prop, first (fun vs w => ∃ n, I n vs w) ∧ ∀ J n vs w, I n vs w → pass J vs (fun vs' w' => ∃ m, m < n ∧ I m vs' w') w
def firstLabel : Code → Option Nat
  | .label l => some l
  | .seq a b => match firstLabel a with
    | some l => some l
    | none => firstLabel b
  | _ => none
section
variable (P : Program) (N : Nat) (lv : List (Nat × List Nat))
/-- behind a test nothing is known any more of which slots hold a bool that is written out. -/
def calm (Q : Exit → St → World → Prop) : Exit → St → World → Prop
  | .normal, s, w => Q .normal s.reset w
  | e, s, w => Q e s w
def codeW : Code → (Exit → St → World → Prop) → St → World → Prop
  | .skip, Q, s, w => Q .normal s.reset w
  | .label _, Q, s, w => Q .normal s.reset w
  | .region _ ops draw, Q, s, w => regionW P N ops draw (fun s w => Q .normal s w) s.reset w
  | .seq a b, Q, s, w => codeW a (fun e s w => match e with
      | .normal => codeW b Q s w
      | e => Q e s w) s w
  | .cond c a b, Q, s, w => bif knownOp s.kn c then (match s.ρ.ev c with
      | .bool t => bif t then codeW a (calm Q) s.reset w else codeW b (calm Q) s.reset w
      | _ => False) else Split (s.ρ.ev c) (fun t => bif t then codeW a (calm Q) s.reset w else codeW b (calm Q) s.reset w)
  | .block id body, Q, s, w => codeW body (fun e s w => match e with
      | .exit i => bif Nat.beq i id then Q .normal s.reset w else Q (.exit i) s w
      | .normal => Q .normal s.reset w
      | e => Q e s w) s.reset w
  | .loop body, Q, s, w => LoopW ((liveOf lv (loopKey body)).map s.ρ) w fun J vs next w => codeW body (fun e s' w' => match e with
      | .normal => next ((liveOf lv (loopKey body)).map s'.ρ) w'
      | e => Q e s' w') ⟨havoc (mods body) (liveOf lv (loopKey body)) J vs s.ρ, []⟩ w
  | .exit id, Q, s, w => Q (.exit id) s.reset w
  | .goto l, Q, s, w => Q (.goto l) s.reset w
  | .ret, Q, s, w => Q .ret s.reset w
  | _, _, _, _ => False
/-- what a call with these results hands back. -/
def tupOf : List Value → Value
  | [v] => v
  | l => .tuple l.toArray
def resW (k : Value → World → Prop) : List ResultVar → List Value → Env → World → Prop
  | [], acc, _, w => k (tupOf acc) w
  | .tmp t :: rs, acc, ρ, w => resW k rs (acc ++ [ρ t]) ρ w
  | .cell a T :: rs, acc, ρ, w => match aggN P T with
    | some (some n) => LoadN (fun v w => resW k rs (acc ++ [v]) ρ w) w n (ρ a)
    | some none => Load1 (fun v w => resW k rs (acc ++ [v]) ρ w) w (ρ a)
    | none => False
/-- code with one scope that jumps back to one label, at the head of it. -/
def scopeW (c : Code) (Q : Exit → St → World → Prop) (s : St) (w : World) : Prop :=
  match firstLabel c with
  | some l => match findLabel c l with
    | some rest => JumpW (fun next => codeW P N lv c (fun e s w => match e with
        | .goto l' => bif Nat.beq l' l then next ((liveOf lv (loopKey c)).map s.ρ) w else False
        | e => Q e s w) s.reset w) fun J vs next w => codeW P N lv rest (fun e s w => match e with
        | .goto l' => bif Nat.beq l' l then next ((liveOf lv (loopKey c)).map s.ρ) w else False
        | e => Q e s w) ⟨havoc (mods c) (liveOf lv (loopKey c)) J vs s.ρ, []⟩ w
    | none => False
  | none => False
def topW (c : Code) (Q : Exit → St → World → Prop) (s : St) (w : World) : Prop :=
  match c with
  | .seq a (.scope b) => codeW P N lv a (fun e s w => match e with
      | .normal => scopeW P N lv b Q s w
      | e => Q e s w) s w
  | .scope b => scopeW P N lv b Q s w
  | c => codeW P N lv c Q s w
def bodyW (fn : Func) (args : List Value) (k : Value → World → Prop) (w : World) : Prop :=
  match fn.body with
  | some c => topW P fn.ntmps lv c (fun e s w => match e with
    | .normal => resW P k fn.results.toList [] s.ρ w
    | .ret => resW P k fn.results.toList [] s.ρ w
    | _ => False) ⟨fun t => args.getD t undef, []⟩ w
  | none => False
end
end Go.Wx
end
section
namespace Go.Wx
open Go
section
variable {P : Program} {N : Nat} {ops : Array Oper}

theorem Env.put_self {ρ : Env} {d : Nat} {v : Value} (h : ρ d = v) : ρ.put d v = ρ := by
  funext n
  by_cases e : n = d
  · subst e; rw [Env.put_same, h]
  · rw [Env.put_ne _ _ e]
theorem dstOk_lt {d : Option Nat} (h : dstOk N d = true) : ∀ x, d = some x → x < N := by
  intro x hx
  subst hx
  simpa [dstOk, Nat.blt_eq] using h
theorem runW_op {o : Oper} {next : St → World → Prop} {s : St} {w : World} (h : runW P N o next s w) :
    dstOk N o.dst = true ∧ opW P o s.ρ (fun v w' => ∃ kn, next ⟨s.ρ.putO o.dst v, kn⟩ w') w := by
  unfold runW at h
  cases hd : dstOk N o.dst with
  | false => simp [hd] at h
  | true =>
    simp only [hd, cond_true] at h
    refine ⟨rfl, ?_⟩
    have gen : opW P o s.ρ (fun v w' => next (s.putU o.dst v) w') w → opW P o s.ρ (fun v w' => ∃ kn, next ⟨s.ρ.putO o.dst v, kn⟩ w') w := by
      intro h
      have : (fun v w' => next (s.putU o.dst v) w') = (fun v w' => next ⟨s.ρ.putO o.dst v, forget s.kn o.dst⟩ w') := rfl
      rw [this] at h
      exact opW_mono (fun v w' hk => ⟨_, hk⟩) h
    split at h
    · rename_i d x y ho
      cases hk : knows s.kn d with
      | true =>
        simp only [hk, cond_true] at h
        split at h
        · rename_i b hb
          unfold opW
          rw [ho]
          refine ⟨b, hb, (s.putK o.dst (bif b then x else y)).kn, ?_⟩
          cases b <;> exact h
        · exact h.elim
      | false => simp only [hk, cond_false] at h; exact gen h
    · rename_i x ho; unfold opW; rw [ho]; exact ⟨_, h⟩
    · rename_i x ho; unfold opW; rw [ho]; exact ⟨_, h⟩
    · exact gen h
theorem skipW_op {o : Oper} {next : St → World → Prop} {s : St} {w : World} (h : skipW N o next s w) : dstOk N o.dst = true ∧ ∃ kn, next ⟨s.ρ.putO o.dst undef, kn⟩ w := by
  unfold skipW at h
  cases hd : dstOk N o.dst with
  | false => simp [hd] at h
  | true => simp only [hd, cond_true] at h; exact ⟨rfl, _, h⟩
theorem guardW_op {o : Oper} {run skip : St → Prop} {s : St} {a : Act} (ha : Agree N a s.ρ) (h : guardW N ops o run skip s) :
    (Region.wanted o (yielded ops a.tmps) = true ∧ ∃ kn, run ⟨s.ρ, kn⟩) ∨ (Region.wanted o (yielded ops a.tmps) = false ∧ ∃ kn, skip ⟨s.ρ, kn⟩) := by
  unfold guardW at h
  split at h
  · rename_i hg; exact .inl ⟨by simp [Region.wanted, hg], s.kn, h⟩
  · rename_i j want hg
    split at h
    · rename_i hd
      exact .inr ⟨by simp [Region.wanted, hg, yielded, hd], s.kn, h⟩
    · rename_i d hd
      have hy : ∀ b, s.ρ d = .bool b → yielded ops a.tmps j = some b := by
        intro b hb
        have := ha.at_ d
        rw [hb] at this
        simp only [yielded, hd, Option.bind_some]
        cases hx : a.tmps[d]? with
        | none => simp [hx, undef] at this
        | some v => simp [hx] at this; subst this; rfl
      have fin : ∀ b kn, s.ρ d = .bool b → (bif b == want then run ⟨s.ρ, kn⟩ else skip ⟨s.ρ, kn⟩) →
          (Region.wanted o (yielded ops a.tmps) = true ∧ ∃ kn, run ⟨s.ρ, kn⟩) ∨ (Region.wanted o (yielded ops a.tmps) = false ∧ ∃ kn, skip ⟨s.ρ, kn⟩) := by
        intro b kn hb h
        have hw : Region.wanted o (yielded ops a.tmps) = (b == want) := by
          simp only [Region.wanted, hg, hy b hb]
          rfl
        cases hbw : (b == want) with
        | true => rw [hbw] at h hw; exact .inl ⟨hw, kn, h⟩
        | false => rw [hbw] at h hw; exact .inr ⟨hw, kn, h⟩
      cases hk : knows s.kn d with
      | true =>
        simp only [hk, cond_true] at h
        split at h
        · rename_i b hb; exact fin b s.kn hb h
        · rename_i hnb
          refine .inr ⟨?_, s.kn, h⟩
          have : yielded ops a.tmps j = none := by
            simp only [yielded, hd, Option.bind_some]
            have hat := ha.at_ d
            cases hx : a.tmps[d]? with
            | none => rfl
            | some v =>
              simp [hx] at hat
              cases v <;> first | rfl | exact absurd hat.symm (hnb _)
          simp only [Region.wanted, hg, this]
          rfl
      | false =>
        simp only [hk, cond_false] at h
        cases hl : Nat.blt d N with
        | false => simp [hl] at h
        | true =>
          simp only [hl, cond_true] at h
          obtain ⟨b, hb, h1, h2⟩ := h
          cases b with
          | true =>
            have := h1 rfl
            dsimp only at this
            rw [Env.put_self hb] at this
            exact fin true _ hb this
          | false =>
            have := h2 rfl
            dsimp only at this
            rw [Env.put_self hb] at this
            exact fin false _ hb this
/-- one operation, carried out or passed over, from a state to a state. -/
theorem oneW_sound {o : Oper} {next : St → World → Prop} {s : St} {w : World} {a : Act} {K : Act → World → Prop} {Q : Exit → Act → World → Prop} (ha : Agree N a s.ρ) (h : oneW P N ops o next s w)
    (hk : ∀ s' a' w', Agree N a' s'.ρ → (∀ t, (∀ d, o.dst = some d → t ≠ d) → s'.ρ t = s.ρ t) → next s' w' → K a' w') :
    if Region.wanted o (yielded ops a.tmps) then o.wp P a w K Q ∨ (o.asks P a w ∧ LetsOut Q) else K (a.put o.dst undef) w := by
  have frame : ∀ v, ∀ t, (∀ d, o.dst = some d → t ≠ d) → (s.ρ.putO o.dst v) t = s.ρ t := by
    intro v t ht
    cases hd : o.dst with
    | none => rfl
    | some d => exact Env.put_ne _ _ (ht d hd)
  rcases guardW_op ha h with ⟨hw, kn, hr⟩ | ⟨hw, kn, hr⟩
  · rw [if_pos hw]
    obtain ⟨hd, ho⟩ := runW_op hr
    exact .inl (opW_sound ha ho fun v w' ⟨kn', hn⟩ => hk _ _ _ (ha.putO (dstOk_lt hd) v) (frame v) hn)
  · rw [hw, if_neg (by simp)]
    obtain ⟨hd, kn', hn⟩ := skipW_op hr
    exact hk _ _ _ (ha.putO (dstOk_lt hd) undef) (frame undef) hn
theorem modsO_cons {o : Oper} {l : List Oper} {t : Nat} (h : t ∉ modsO (o :: l)) : (∀ d, o.dst = some d → t ≠ d) ∧ t ∉ modsO l := by
  simp only [modsO, List.flatMap_cons, List.mem_append, not_or] at h
  refine ⟨fun d hd e => ?_, by simpa [modsO] using h.2⟩
  subst e
  have := h.1.1
  simp [hd] at this
theorem opsW_sound {next : St → World → Prop} {Q : Exit → Act → World → Prop} : ∀ (l : List Oper) (s : St) (w : World) (a : Act), Agree N a s.ρ → opsW P N ops next l s w →
    (∀ s' a' w', Agree N a' s'.ρ → (∀ t, t ∉ modsO l → s'.ρ t = s.ρ t) → next s' w' → Q .normal a' w') → wpList P ops Q l a w
  | [], s, w, a, ha, h, hk => hk s a w ha (fun _ _ => rfl) h
  | o :: l, s, w, a, ha, h, hk => by
    unfold wpList
    refine oneW_sound ha h fun s' a' w' ha' hf hn => opsW_sound l s' w' a' ha' hn fun s'' a'' w'' ha'' hf' hn' => hk s'' a'' w'' ha'' (fun t ht => ?_) hn'
    obtain ⟨h1, h2⟩ := modsO_cons ht
    rw [hf' t h2, hf t h1]
end
end Go.Wx
end
section
namespace Go.Wx
open Go
section
variable {P : Program} {N : Nat} {ops : Array Oper}
def OnlyV (P : Program) (s : Sem Next) : Prop := ∀ w n w', s.run P w = .ok n w' → ∃ v, n = .value v
theorem onlyV_v (s : Sem Value) : OnlyV P (do pure (Next.value (← s))) := by
  intro w n w' h
  rw [Sem.run_bind] at h
  cases hr : s.run P w with
  | ok v w1 => rw [hr] at h; simp only [Result.andThen_ok, Sem.run_pure, Result.ok.injEq] at h; exact ⟨v, h.1.symm⟩
  | halt x w1 => rw [hr] at h; simp at h
theorem run_of_does {s : Sem Next} {v : Value} {w : World} (ho : OnlyV P s) (h : Does P s (fun u w'' => u = v ∧ w'' = w) w) : s.run P w = .ok (.value v) w := by
  unfold Does at h
  cases hr : s.run P w with
  | halt x w1 => rw [hr] at h; exact h.elim
  | ok n w1 =>
    obtain ⟨u, rfl⟩ := ho _ _ _ hr
    rw [hr] at h
    simp only at h
    rw [h.1, h.2]
theorem quiet_onlyV {o : Oper} {ρ : Env} (hq : quietB P o = true) (hn : ∀ x, o.op ≠ .nilCheck x) : OnlyV P (execOp ρ.ev o) := by
  obtain ⟨dst, op, type, pos, after, guard⟩ := o
  cases op <;> simp only [quietB, pureB, stillB, Bool.or_self, Bool.or_false, Bool.false_or] at hq <;> first | (cases hq; done) | (exact onlyV_v _) | skip
  case move x => intro w n w' h; simp [execOp] at h; exact ⟨_, h.1.symm⟩
  case assign x => intro w n w' h; simp [execOp] at h; exact ⟨_, h.1.symm⟩
  case pick c a b =>
    have e : execOp ρ.ev ⟨dst, .pick c a b, type, pos, after, guard⟩ = (do pure (Next.value (← (do pure (if ← asBool (ρ.ev c) then ρ.ev a else ρ.ev b) : Sem Value)))) := by
      simp [execOp]
    rw [e]; exact onlyV_v _
  case nilCheck x => exact absurd rfl (hn x)
  case call c =>
    obtain ⟨callee, args, argTypes⟩ := c
    dsimp only at hq
    cases callee with
    | value f => simp [pureCall, stillCall] at hq
    | invoke r m => simp [pureCall, stillCall] at hq
    | builtin b =>
      cases b <;> simp only [pureCall, stillCall, pureBuiltin, Bool.or_self, Bool.false_eq_true] at hq
      all_goals
        simp only [execOp, resolve, pure_bind, invoke, builtin]
        exact onlyV_v _
theorem run_nilCheck {o : Oper} {ρ : Env} {x : Operand} {w : World} (ho : o.op = .nilCheck x) (h : nonNil (ρ.ev x) = true) : (execOp ρ.ev o).run P w = .ok (.value (ρ.ev x)) w := by
  unfold execOp
  rw [ho]
  dsimp only
  generalize ρ.ev x = v at h
  unfold nonNil at h
  split at h <;> first | (cases h; done) | skip
  rename_i h1 h2 h3 h4
  split
  · exact absurd rfl h1
  · exact absurd rfl h2
  · exact absurd rfl h3
  · exact absurd rfl (h4 _ _ _)
  · rfl
/-- a pure operation: one value, in every world. -/
theorem pure_opW {k : Value → World → Prop} {w : World} {o : Oper} {ρ : Env} (hp : pureB P o = true) (h : opW P o ρ k w) : ∃ v, k v w ∧ ∀ k' w', k' v w' → opW P o ρ k' w' := by
  have ex : ∀ {α : Type} {φ : α → Prop} {f : α → Value}, (∃ v, φ v ∧ k (f v) w) → ∃ u, k u w ∧ ∀ (k' : Value → World → Prop) w', k' u w' → (∃ v, φ v ∧ k' (f v) w') := fun ⟨v, a, b⟩ => ⟨_, b, fun k' w' hk => ⟨v, a, hk⟩⟩
  obtain ⟨dst, op, type, pos, after, guard⟩ := o
  cases op <;> simp only [opW] at h ⊢ <;> simp only [pureB] at hp <;> first | exact h.elim | (cases hp; done) | exact ⟨_, h, fun k' w' hk => hk⟩ | skip
  case pick => obtain ⟨t, a, b⟩ := h; exact ⟨_, b, fun k' w' hk => ⟨t, a, hk⟩⟩
  case build =>
    split at h <;> first | exact h.elim | skip
    · split at h <;> first | exact h.elim | exact ex h
    · split at h <;> first | exact h.elim | exact ex h
  case nilCheck => exact ⟨_, h.2, fun k' w' hk => ⟨h.1, hk⟩⟩
  case binOp op T x y yT =>
    cases hi : isIntT P T with
    | true => simp only [hi, cond_true] at h ⊢; exact ex h
    | false =>
      simp only [hi, cond_false, Bool.false_or] at h hp ⊢
      split at h
      · obtain ⟨v, a, b⟩ := h; exact ⟨_, b, fun k' w' hk => ⟨v, a, hk⟩⟩
      · rename_i hm; simp [hm] at hp
  case unOp => exact ex h
  case convert =>
    split at h
    · obtain ⟨i, n, a, b⟩ := h; exact ⟨_, b, fun k' w' hk => ⟨i, n, a, hk⟩⟩
    · exfalso
      rename_i h1
      revert hp
      split <;> first | (exact fun _ => h1 _ _ ‹_› ‹_›) | simp
  case makeInterface => split at h <;> first | exact h.elim | exact ⟨_, h, fun k' w' hk => hk⟩
  case slice =>
    split at h
    · split at h <;> first | exact h.elim | exact ex h
    · exfalso
      rename_i h1
      revert hp
      split <;> first | (exact fun _ => h1 _ ‹_›) | simp
  case fieldAddr =>
    split at h <;> first | exact h.elim | skip
    split at h <;> first | exact h.elim | skip
    split at h <;> first | exact h.elim | skip
    cases hb : Nat.beq _ 0 with
    | true => simp only [hb, cond_true] at h
    | false => simp only [hb, cond_false] at h ⊢; obtain ⟨a, b, h⟩ := h; exact ⟨_, h, fun k' w' hk => ⟨a, b, hk⟩⟩
  case field =>
    split at h <;> first | exact h.elim | skip
    split at h <;> first | exact h.elim | skip
    split at h <;> first | exact h.elim | exact ex h
  case indexAddr =>
    split at h <;> first | exact h.elim | skip
    · split at h <;> first | exact h.elim | exact ex h
    · split at h <;> first | exact h.elim | exact ex h
  case index =>
    split at h
    · split at h <;> first | exact h.elim | exact ex h
    · exfalso
      rename_i h1
      revert hp
      split <;> first | (exact fun _ => h1 _ _ ‹_›) | simp
  case extract => exact ex h
  case call c =>
    obtain ⟨callee, args, argTypes⟩ := c
    dsimp only at hp
    cases callee with
    | value f => simp [pureCall] at hp
    | invoke r m => simp [pureCall] at hp
    | builtin b =>
      cases b <;> simp only [pureCall, pureBuiltin, Bool.false_eq_true] at hp
      case len =>
        simp only [callW] at h ⊢
        split at h <;> first | exact h.elim | exact ex h | exact ⟨_, h, fun k' w' hk => hk⟩ | skip
        rename_i hx hy
        simp [hx] at hp
      case cap =>
        simp only [callW] at h ⊢
        split at h <;> first | exact h.elim | exact ex h
      case min =>
        simp only [callW] at h ⊢
        split at h <;> first | exact h.elim | exact ex h
      case max =>
        simp only [callW] at h ⊢
        split at h <;> first | exact h.elim | exact ex h
theorem pure_yields {k : Value → World → Prop} {w : World} {o : Oper} {ρ : Env} (hp : pureB P o = true) (h : opW P o ρ k w) : ∃ v, k v w ∧ ∀ w', (execOp ρ.ev o).run P w' = .ok (.value v) w' := by
  by_cases hn : ∃ x, o.op = .nilCheck x
  · obtain ⟨x, hx⟩ := hn
    unfold opW at h
    rw [hx] at h
    exact ⟨_, h.2, fun w' => run_nilCheck hx h.1⟩
  · obtain ⟨v, hk, hall⟩ := pure_opW hp h
    exact ⟨v, hk, fun w' => run_of_does (quiet_onlyV (by simp [quietB, hp]) fun x hx => hn ⟨x, hx⟩) (opW_does (hall _ w' ⟨rfl, rfl⟩))⟩
theorem still_notNil {o : Oper} (h : stillB P o = true) : ∀ x, o.op ≠ .nilCheck x := by
  intro x hx
  unfold stillB at h
  rw [hx] at h
  cases h
theorem held_yields {S : World → Prop} {k : Value → World → Prop} {w : World} {o : Oper} {ρ : Env} (hs : stillB P o = true) (h : HeldW S (fun k w => opW P o ρ k w) k w) :
    S w ∧ ∃ v, k v w ∧ ∀ w', S w' → (execOp ρ.ev o).run P w' = .ok (.value v) w' := by
  obtain ⟨hw, v, hall, hk⟩ := h
  exact ⟨hw, v, hk, fun w' hw' => run_of_does (quiet_onlyV (by simp [quietB, hs]) (still_notNil hs)) (opW_does (hall w' hw'))⟩
end
end Go.Wx
end
section
namespace Go.Wx
open Go
section
variable {P : Program} {N : Nat} {ops : Array Oper} {S : World → Prop} {Q : Exit → Act → World → Prop}
def qB (P : Program) (ops : Array Oper) (i : Nat) : Bool := match ops[i]? with
  | some o => quietB P o
  | none => true
/-- whatever order is picked from here on; what is quiet leaves the world alone, and what may come ahead of a read leaves S. -/
def wpAnyX (P : Program) (ops : Array Oper) (Q : Exit → Act → World → Prop) (S : World → Prop) : Nat → Array Bool → Act → World → Prop
  | 0, listed, a, w => Region.ready .any ops listed = [] ∧ Q .normal a w
  | f + 1, listed, a, w => (Region.ready .any ops listed = [] → Q .normal a w) ∧
    ∀ i ∈ Region.ready .any ops listed, wpOp P ops Q i (fun a' w' => ((qB P ops i = true → w' = w) ∧ (qB P ops i = false → sNeed P ops i = true → S w')) ∧ wpAnyX P ops Q S f (listed.setIfInBounds i true) a' w') a w
theorem wpAny_ofX : ∀ (f : Nat) (listed : Array Bool) (a : Act) (w : World), wpAnyX P ops Q S f listed a w → wpAny P .any ops Q f listed a w
  | 0, _, _, _, h => h
  | f + 1, _, _, _, h => ⟨h.1, fun i hi => wpOp_mono (fun a' w' h' => wpAny_ofX f _ a' w' h'.2) (h.2 i hi)⟩
def Closed (ops : Array Oper) (listed : Array Bool) : Prop := ∀ j o, ops[j]? = some o → listed.getD j false = true → ∀ e ∈ o.after, Region.binds .any e = true → listed.getD e.on false = true
theorem Closed.set {listed : Array Bool} {i : Nat} (h : Closed ops listed) (hi : i ∈ Region.ready .any ops listed) : Closed ops (listed.setIfInBounds i true) := by
  intro j o hj hl e he hb
  by_cases hij : i = j
  · subst hij
    obtain ⟨_, o', ho', hall⟩ := mem_ready.1 hi
    rw [hj] at ho'
    cases ho'
    exact getD_set_true (hall e he hb)
  · rw [getD_set_ne _ hij] at hl
    exact getD_set_true (h j o hj hl e he hb)
theorem dep_listed {listed : Array Bool} (hc : Closed ops listed) {i : Nat} : ∀ (n j : Nat), depB ops i n j = true → (∀ o, ops[j]? = some o → ∀ e ∈ o.after, Region.binds .any e = true → listed.getD e.on false = true) → listed.getD i false = true
  | 0, j, h, _ => by simp [depB] at h
  | n + 1, j, h, hd => by
    unfold depB at h
    split at h
    · rename_i o ho
      simp only [List.any_eq_true, Bool.and_eq_true, Bool.or_eq_true] at h
      obtain ⟨e, he, hb, h | h⟩ := h
      · rw [← Nat.eq_of_beq_eq_true h]
        exact hd o ho e (Array.mem_toList_iff.1 he) hb
      · have hl := hd o ho e (Array.mem_toList_iff.1 he) hb
        exact dep_listed hc n e.on h fun o' ho' e' he' hb' => hc e.on o' ho' hl e' he' hb'
    · cases h
/-- **what yields its value in every world of a class may be taken first**: a pure operation (all worlds); a read (the worlds of S). -/
theorem takeX {Sy : World → Prop} {i : Nat} {oi : Oper} {v : Value} (hi : ops[i]? = some oi) (hq : quietB P oi = true) (hsel : ∀ (j : Nat) (o : Oper) cs b, ops[j]? = some o → o.op ≠ .select cs b)
    (hQ : ∀ c a w, ¬ Q (.panic c) a w) (hSy : (∀ w, Sy w) ∨ (stillB P oi = true ∧ ∀ w, S w → Sy w)) :
    ∀ (f : Nat) (listed : Array Bool) (a : Act) (w : World), Closed ops listed →
      (∀ j oj, ops[j]? = some oj → j ≠ i → listed.getD j true = false → (∀ e ∈ oj.after, Region.binds .any e = true → e.on ≠ i) → oi.apart ops oj = true) →
      i ∈ Region.ready .any ops listed → Sy w → YieldsIf P ops Sy oi v a →
      wpAnyX P ops Q S f (listed.setIfInBounds i true) (a.put oi.dst v) w → wpAnyX P ops Q S (f + 1) listed a w := by
  have hqi : qB P ops i = true := by simp [qB, hi, hq]
  intro f
  induction f with
  | zero =>
    intro listed a w _ _ hr hs hy H
    refine ⟨fun h => (by rw [h] at hr; cases hr), fun j hj => ?_⟩
    by_cases hji : j = i
    · subst hji; exact hy.wpOp hi hs ⟨⟨fun _ => rfl, fun hh => by rw [hqi] at hh; cases hh⟩, H⟩
    · have := ready_mono hj hji
      rw [H.1] at this
      cases this
  | succ f ih =>
    intro listed a w hcl hfree hr hs hy H
    refine ⟨fun h => (by rw [h] at hr; cases hr), fun j hj => ?_⟩
    by_cases hji : j = i
    · subst hji; exact hy.wpOp hi hs ⟨⟨fun _ => rfl, fun hh => by rw [hqi] at hh; cases hh⟩, H⟩
    · have h1 := H.2 j (ready_mono hj hji)
      obtain ⟨hjun, oj, hoj, hall⟩ := mem_ready.1 hj
      have hun := (mem_ready.1 hr).1
      have hunf : listed.getD i false = false := by
        rcases Nat.lt_or_ge i listed.size with h' | h'
        · simp [h'] at hun ⊢; exact hun
        · simp [Array.getElem?_eq_none h'] at hun
      have hnot : ∀ e ∈ oj.after, Region.binds .any e = true → e.on ≠ i := fun e he hb heq => by
        have h1 := hall e he hb
        rw [heq, hunf] at h1
        cases h1
      have h2 := wpOp_putIf (S := Sy) hoj (hfree j oj hoj hji hjun hnot) (fun cs b => hsel i oi cs b hi) (fun cs b => hsel j oj cs b hoj) (fun c a w h => absurd h (hQ c _ w)) hy h1
      have hfree' : ∀ k ok, ops[k]? = some ok → k ≠ i → (listed.setIfInBounds j true).getD k true = false →
          (∀ e ∈ ok.after, Region.binds .any e = true → e.on ≠ i) → oi.apart ops ok = true := fun k ok hk hki hun hno => by
        refine hfree k ok hk hki ?_ hno
        by_cases hjk : j = k
        · subst hjk; exact hjun
        · rw [getD_set_ne true hjk] at hun; exact hun
      refine wpOp_mono (fun a' w' h3 => ⟨h3.2.1, ?_⟩) h2
      have hs' : Sy w' := by
        cases hqj : qB P ops j with
        | true => rw [h3.2.1.1 hqj]; exact hs
        | false =>
          rcases hSy with hall' | ⟨hst, hSS⟩
          · exact hall' w'
          · refine hSS _ (h3.2.1.2 hqj ?_)
            unfold sNeed
            refine List.any_eq_true.2 ⟨i, List.mem_range.2 (Array.getElem?_eq_some_iff.1 hi).1, ?_⟩
            have e1 : Nat.beq i j = false := by
              cases hb : Nat.beq i j with
              | false => rfl
              | true => exact absurd (Nat.eq_of_beq_eq_true hb).symm hji
            have e2 : depB ops i 2 j = false := by
              cases hb : depB ops i 2 j with
              | false => rfl
              | true =>
                have := dep_listed hcl 2 j hb (fun o ho e he hbe => by rw [hoj] at ho; cases ho; exact hall e he hbe)
                rw [hunf] at this
                cases this
            simp [e1, hi, hst, e2]
      refine ih (listed.setIfInBounds j true) a' w' (hcl.set hj) hfree' (ready_mono hr (Ne.symm hji)) hs' h3.1 ?_
      rw [Array.setIfInBounds_comm _ _ hji]
      exact h3.2.2
theorem AllW_mem {f : Nat → Prop} : ∀ {l : List Nat}, AllW f l → ∀ i ∈ l, f i
  | [], _, i, hi => by cases hi
  | [j], h, i, hi => by
    have : i = j := by simpa using hi
    subst this; exact h
  | j :: k :: l, h, i, hi => by
    rcases List.mem_cons.1 hi with rfl | hi
    · exact h.1
    · exact AllW_mem (l := k :: l) h.2 i hi
theorem modsO_mem {o : Oper} {l : List Oper} {t : Nat} (ho : o ∈ l) (h : t ∉ modsO l) : ∀ d, o.dst = some d → t ≠ d := by
  intro d hd e
  subst e
  apply h
  unfold modsO
  exact List.mem_flatMap.2 ⟨o, ho, by simp [hd]⟩
theorem drawW_sound (hsel : Region.noSelect ops = true) (hQ : ∀ c a w, ¬ Q (.panic c) a w) {next : St → World → Prop} :
    ∀ (f : Nat) (listed : Array Bool) (s : St) (w : World) (a : Act), Closed ops listed → Agree N a s.ρ → drawW P N S ops next f listed s w →
    (∀ s' a' w', Agree N a' s'.ρ → (∀ t, t ∉ modsO ops.toList → s'.ρ t = s.ρ t) → next s' w' → Q .normal a' w') → wpAnyX P ops Q S f listed a w := by
  have hsel' := Region.noSelect_spec hsel
  intro f
  induction f with
  | zero =>
    intro listed s w a _ ha h hk
    unfold drawW at h
    split at h
    · rename_i hr; exact ⟨hr, hk s a w ha (fun _ _ => rfl) h⟩
    · exact h.elim
  | succ f ih =>
    intro listed s w a hcl ha h hk
    unfold drawW at h
    cases hr : Region.ready .any ops listed with
    | nil =>
      rw [hr] at h
      dsimp only at h
      exact ⟨fun _ => hk s a w ha (fun _ _ => rfl) h, fun i hi => (by rw [hr] at hi; cases hi)⟩
    | cons i0 r0 =>
      rw [hr] at h
      dsimp only at h
      have cont : ∀ {i : Nat} {o : Oper}, ops[i]? = some o → i ∈ Region.ready .any ops listed → ∀ {v : Value} {kn : List Nat} {w' : World}, dstOk N o.dst = true →
          drawW P N S ops next f (listed.setIfInBounds i true) ⟨s.ρ.putO o.dst v, kn⟩ w' → wpAnyX P ops Q S f (listed.setIfInBounds i true) (a.put o.dst v) w' := by
        intro i o ho hi v kn w' hd hdr
        refine ih _ _ _ _ (hcl.set hi) (ha.putO (dstOk_lt hd) v) hdr fun s' a' w'' ha' hf hn => hk s' a' w'' ha' (fun t ht => ?_) hn
        rw [hf t ht]
        have hne := modsO_mem (Array.mem_toList_iff.2 (Array.mem_of_getElem? ho)) ht
        cases hdo : o.dst with
        | none => rfl
        | some d => exact Env.put_ne _ _ (hne d hdo)
      cases hp : pickP P ops listed (i0 :: r0) with
      | some i =>
        rw [hp] at h
        dsimp only at h
        have hi : i ∈ Region.ready .any ops listed := by rw [hr]; exact List.mem_of_find?_eq_some hp
        have hprop := List.find?_some hp
        cases ho : ops[i]? with
        | none => rw [ho] at h; exact h.elim
        | some o =>
          rw [ho] at h hprop
          dsimp only at h hprop
          simp only [Bool.and_eq_true] at hprop
          obtain ⟨hpure, hfree⟩ := hprop
          have hq : quietB P o = true := by simp [quietB, hpure]
          rcases guardW_op ha h with ⟨hw, kn, hrun⟩ | ⟨hw, kn, hsk⟩
          · obtain ⟨hd, hop⟩ := runW_op hrun
            obtain ⟨v, ⟨kn', hn⟩, hall⟩ := pure_yields hpure hop
            refine takeX (Sy := fun _ => True) (v := v) ho hq hsel' hQ (.inl fun _ => trivial) f listed a w hcl (Region.free_spec ho hfree) hi trivial (.inl ⟨hw, fun w' _ => ?_⟩) (cont ho hi hd hn)
            rw [ha.eval]; exact hall w'
          · obtain ⟨hd, kn', hn⟩ := skipW_op hsk
            exact takeX (Sy := fun _ => True) (v := undef) ho hq hsel' hQ (.inl fun _ => trivial) f listed a w hcl (Region.free_spec ho hfree) hi trivial (.inr ⟨hw, rfl⟩) (cont ho hi hd hn)
      | none =>
        rw [hp] at h
        dsimp only at h
        cases hps : pickS P ops listed (i0 :: r0) with
        | some i =>
          rw [hps] at h
          dsimp only at h
          have hi : i ∈ Region.ready .any ops listed := by rw [hr]; exact List.mem_of_find?_eq_some hps
          have hprop := List.find?_some hps
          cases ho : ops[i]? with
          | none => rw [ho] at h; exact h.elim
          | some o =>
            rw [ho] at h hprop
            dsimp only at h hprop
            simp only [Bool.and_eq_true] at hprop
            obtain ⟨hst, hfree⟩ := hprop
            have hq : quietB P o = true := by simp [quietB, hst]
            rcases guardW_op ha h with ⟨hw, kn, hrun⟩ | ⟨hw, kn, hsk⟩
            · unfold heldRun at hrun
              cases hd : dstOk N o.dst with
              | false => simp [hd] at hrun
              | true =>
                simp only [hd, cond_true] at hrun
                obtain ⟨hS, v, hn, hall⟩ := held_yields hst hrun
                refine takeX (Sy := S) (v := v) ho hq hsel' hQ (.inr ⟨hst, fun _ h => h⟩) f listed a w hcl (Region.free_spec ho hfree) hi hS (.inl ⟨hw, fun w' hw' => ?_⟩) (cont ho hi hd hn)
                rw [ha.eval]; exact hall w' hw'
            · obtain ⟨hd, kn', hn⟩ := skipW_op hsk
              exact takeX (Sy := fun _ => True) (v := undef) ho hq hsel' hQ (.inl fun _ => trivial) f listed a w hcl (Region.free_spec ho hfree) hi trivial (.inr ⟨hw, rfl⟩) (cont ho hi hd hn)
        | none =>
          rw [hps] at h
          dsimp only at h
          refine ⟨fun h0 => (by rw [hr] at h0; cases h0), fun i hi => ?_⟩
          have h' := AllW_mem h i (by rw [← hr]; exact hi)
          unfold wpOp
          cases ho : ops[i]? with
          | none => rw [ho] at h'; exact h'.elim
          | some o =>
            rw [ho] at h'
            dsimp only at h' ⊢
            have hqb : (pureB P o || stillB P o) = quietB P o := rfl
            rw [hqb] at h'
            cases hqq : quietB P o with
            | true => rw [hqq] at h'; exact h'.elim
            | false =>
              rw [hqq] at h'
              simp only [cond_false] at h'
              have hqi : qB P ops i = false := by simp [qB, ho, hqq]
              rcases guardW_op ha h' with ⟨hw, kn, hrun⟩ | ⟨hw, kn, hsk⟩
              · rw [if_pos hw]
                obtain ⟨hd, hop⟩ := runW_op hrun
                refine .inl (opW_sound ha hop fun v w' ⟨kn', hn⟩ => ?_)
                cases hsn : sNeed P ops i with
                | true => rw [hsn] at hn; exact ⟨⟨fun hh => absurd (hqi.symm.trans hh) (by decide), fun _ _ => hn.1⟩, cont ho hi hd hn.2⟩
                | false => rw [hsn] at hn; exact ⟨⟨fun hh => absurd (hqi.symm.trans hh) (by decide), fun _ hh => absurd hh (by decide)⟩, cont ho hi hd hn⟩
              · rw [hw, if_neg (by simp)]
                cases hsn : sNeed P ops i with
                | true =>
                  rw [hsn] at hsk
                  obtain ⟨hd, kn', hn⟩ := skipW_op hsk.2
                  exact ⟨⟨fun hh => absurd (hqi.symm.trans hh) (by decide), fun _ _ => hsk.1⟩, cont ho hi hd hn⟩
                | false =>
                  rw [hsn] at hsk
                  obtain ⟨hd, kn', hn⟩ := skipW_op hsk
                  exact ⟨⟨fun hh => absurd (hqi.symm.trans hh) (by decide), fun _ hh => absurd hh (by decide)⟩, cont ho hi hd hn⟩
theorem regionW_sound {id : Nat} {draw : Bool} {next : St → World → Prop} {s : St} {w : World} {a : Act} (hQ : ∀ c a w, ¬ Q (.panic c) a w) (ha : Agree N a s.ρ) (h : regionW P N ops draw next s w)
    (hk : ∀ s' a' w', Agree N a' s'.ρ → (∀ t, t ∉ modsO ops.toList → s'.ρ t = s.ρ t) → next s' w' → Q .normal a' w') : (Code.region id ops draw).wp P Q a w := by
  unfold regionW at h
  cases draw with
  | false => exact wp_region_list (opsW_sound _ s w a ha h hk)
  | true =>
    simp only [cond_true] at h
    cases hb : (Region.noSelect ops && P.follows .mixedOrders) with
    | false => simp [hb] at h
    | true =>
      simp only [hb, cond_true] at h
      simp only [Bool.and_eq_true] at hb
      have hcl : Closed ops (Array.replicate ops.size false) := fun j o _ hl => by rw [getD_replicate_false] at hl; cases hl
      refine wp_region_any hb.2 ?_
      cases hst : anyStill P ops with
      | true =>
        simp only [hst, cond_true] at h
        obtain ⟨S, h⟩ := h
        exact wpAny_ofX (S := S) _ _ _ _ (drawW_sound hb.1 hQ _ _ _ _ _ hcl ha h hk)
      | false =>
        simp only [hst, cond_false] at h
        exact wpAny_ofX _ _ _ _ (drawW_sound hb.1 hQ _ _ _ _ _ hcl ha h hk)
end
end Go.Wx
end
section
namespace Go.Wx
open Go
section
variable {P : Program} {Q : Exit → Act → World → Prop} {a : Act} {w : World}
/-- a loop with a number that falls and stands in no slot. -/
theorem wp_loop_n {c : Code} (I : Nat → Act → World → Prop) {n : Nat} (h₀ : I n a w)
    (round : ∀ n a w, I n a w → c.wp P (Exit.then (fun a' w' => ∃ m, m < n ∧ I m a' w') Q) a w) : (Code.loop c).wp P Q a w := by
  intro b k cs
  have key : ∀ n a w, I n a w → ∃ e a' w', Q e a' w' ∧ Arrives P (lone (b.at a (.code c :: .inLoop c :: k)) cs w) b k cs e a' w' := by
    intro n
    induction n using Nat.strongRecOn with
    | _ n ih =>
      intro a w hI
      obtain ⟨e, a₁, w₁, hq, harr⟩ := round n a w hI b (.inLoop c :: k) cs
      cases e with
      | normal =>
        obtain ⟨m, hlt, hI₁⟩ := hq
        obtain ⟨e₂, a₂, w₂, hq₂, harr₂⟩ := ih m hlt a₁ w₁ hI₁
        exact ⟨e₂, a₂, w₂, hq₂, .of_steps (Steps.trans harr (.one step_inLoop)) harr₂⟩
      | exit id => exact ⟨_, a₁, w₁, hq, .pass (x := .inLoop c) rfl (fun _ _ => .inl (by simp)) harr⟩
      | goto l => exact ⟨_, a₁, w₁, hq, .pass (x := .inLoop c) rfl (fun _ _ => .inl (by simp)) harr⟩
      | ret => exact ⟨_, a₁, w₁, hq, .pass (x := .inLoop c) rfl (fun _ _ => .inl (by simp)) harr⟩
      | panic ch => exact ⟨_, a₁, w₁, hq, .pass (x := .inLoop c) rfl (fun _ _ => .inl (by simp)) harr⟩
      | outgrown => exact ⟨_, a₁, w₁, hq, .pass (x := .inLoop c) rfl (fun _ _ => .inl (by simp)) harr⟩
  obtain ⟨e, a', w', hq, harr⟩ := key n a w h₀
  exact ⟨e, a', w', hq, .of_steps (.one step_loop) harr⟩
/-- a scope in which the run jumps back to one label. -/
theorem wp_scope_n {c rest : Code} (l : Nat) (J : Nat → Act → World → Prop) (hf : findLabel c l = some rest)
    (first : c.wp P (Exit.jump l (fun a' w' => ∃ n, J n a' w') Q) a w)
    (pass : ∀ n a w, J n a w → rest.wp P (Exit.jump l (fun a' w' => ∃ m, m < n ∧ J m a' w') Q) a w) : (Code.scope c).wp P Q a w := by
  intro b k cs
  have hg : gotoIn l (.inScope c :: k) = some (.code rest :: .inScope c :: k) := by simp [gotoIn, hf]
  have key : ∀ n a w, J n a w → ∃ e a' w', Q e a' w' ∧ Arrives P (lone (b.at a (.code rest :: .inScope c :: k)) cs w) b k cs e a' w' := by
    intro n
    induction n using Nat.strongRecOn with
    | _ n ih =>
      intro a w hJ
      obtain ⟨e, a₁, w₁, hq, harr⟩ := pass n a w hJ b (.inScope c :: k) cs
      cases e with
      | normal => exact ⟨.normal, a₁, w₁, hq, Steps.trans harr (.one step_inScope)⟩
      | exit id => exact ⟨.exit id, a₁, w₁, hq, fun k' hk => harr k' (by simp [exitTo, hk])⟩
      | goto l' =>
        obtain ⟨rfl, m, hlt, hJ'⟩ := hq
        obtain ⟨e₂, a₂, w₂, hq₂, harr₂⟩ := ih m hlt a₁ w₁ hJ'
        exact ⟨e₂, a₂, w₂, hq₂, .of_steps (harr _ hg) harr₂⟩
      | ret => exact ⟨_, a₁, w₁, hq, harr⟩
      | panic ch => exact ⟨_, a₁, w₁, hq, harr⟩
      | outgrown => exact ⟨_, a₁, w₁, hq, harr⟩
  obtain ⟨e, a₁, w₁, hq, harr⟩ := first b (.inScope c :: k) cs
  cases e with
  | normal => exact ⟨.normal, a₁, w₁, hq, .head step_scope (Steps.trans harr (.one step_inScope))⟩
  | exit id => exact ⟨.exit id, a₁, w₁, hq, fun k' hk => .head step_scope (harr k' (by simp [exitTo, hk]))⟩
  | goto l' =>
    obtain ⟨rfl, n, hJ'⟩ := hq
    obtain ⟨e₂, a₂, w₂, hq₂, harr₂⟩ := key n a₁ w₁ hJ'
    exact ⟨e₂, a₂, w₂, hq₂, .of_steps (.head step_scope (harr _ hg)) harr₂⟩
  | ret => exact ⟨_, a₁, w₁, hq, .of_steps (.one step_scope) harr⟩
  | panic ch => exact ⟨_, a₁, w₁, hq, .of_steps (.one step_scope) harr⟩
  | outgrown => exact ⟨_, a₁, w₁, hq, .of_steps (.one step_scope) harr⟩
end
section
variable {P : Program} {N : Nat} {lv : List (Nat × List Nat)}
/-- what the code's own wp is asked: it ends in a state that agrees with the slots, and has touched no others. -/
def Post (N : Nat) (M : List Nat) (Q : Exit → St → World → Prop) (ρ : Env) (e : Exit) (a : Act) (w : World) : Prop :=
  (∃ s, Agree N a s.ρ ∧ (∀ t, t ∉ M → s.ρ t = ρ t) ∧ Q e s w) ∧ (∀ c, e ≠ .panic c) ∧ e ≠ .outgrown
theorem Post.panic {M : List Nat} {Q : Exit → St → World → Prop} {ρ : Env} : ∀ c a w, ¬ Post N M Q ρ (.panic c) a w := fun c _ _ h => h.2.1 c rfl
theorem havoc_same {M L : List Nat} {ρ ρ' : Env} (h : ∀ t, t ∉ M → ρ' t = ρ t) : havoc M L ρ' (L.map ρ') ρ = ρ' := by
  have base : (fun t => bif knows M t then ρ' t else ρ t) = ρ' := by
    funext t
    cases hk : knows M t with
    | true => rfl
    | false =>
      refine (h t fun hm => ?_).symm
      have : knows M t = true := List.any_eq_true.2 ⟨t, hm, by simp⟩
      rw [hk] at this; cases this
  unfold havoc
  rw [base]
  have key : ∀ (L : List Nat) (i : Nat) (vs : List Value), (∀ j t, L[j]? = some t → vs.getD (i + j) undef = ρ' t) → havocL L i vs ρ' = ρ' := by
    intro L
    induction L with
    | nil => intro i vs _; rfl
    | cons t L ih =>
      intro i vs hv
      unfold havocL
      rw [ih (i + 1) vs fun j u hu => by have := hv (j + 1) u (by simpa using hu); rwa [show i + (j + 1) = i + 1 + j by omega] at this]
      exact Env.put_self (by have := hv 0 t rfl; rw [Nat.add_zero] at this; exact this.symm)
  exact key L 0 _ fun j t ht => by simp [ht]
theorem mem_mods_append {t : Nat} {A B : List Nat} (h : t ∉ A ++ B) : t ∉ A ∧ t ∉ B := by
  simpa using h
theorem codeW_sound : ∀ (c : Code) (Q : Exit → St → World → Prop) (s : St) (w : World) (a : Act), Agree N a s.ρ → codeW P N lv c Q s w → c.wp P (Post N (mods c) Q s.ρ) a w
  | .skip, Q, s, w, a, ha, h => wp_skip ⟨⟨s.reset, ha, fun _ _ => rfl, h⟩, by simp, by simp⟩
  | .label l, Q, s, w, a, ha, h => wp_label ⟨⟨s.reset, ha, fun _ _ => rfl, h⟩, by simp, by simp⟩
  | .exit id, Q, s, w, a, ha, h => wp_exit ⟨⟨s.reset, ha, fun _ _ => rfl, h⟩, by simp, by simp⟩
  | .goto l, Q, s, w, a, ha, h => wp_goto ⟨⟨s.reset, ha, fun _ _ => rfl, h⟩, by simp, by simp⟩
  | .ret, Q, s, w, a, ha, h => wp_ret ⟨⟨s.reset, ha, fun _ _ => rfl, h⟩, by simp, by simp⟩
  | .region id ops draw, Q, s, w, a, ha, h => regionW_sound (s := s.reset) Post.panic ha h fun s' a' w' ha' hf hn => ⟨⟨s', ha', hf, hn⟩, by simp, by simp⟩
  | .seq x y, Q, s, w, a, ha, h => by
    refine wp_seq (wp_mono (codeW_sound x _ s w a ha h) fun e a' w' hp => ?_)
    obtain ⟨⟨s', ha', hf, hq⟩, h1, h2⟩ := hp
    have wide : ∀ t, t ∉ mods (.seq x y) → s'.ρ t = s.ρ t := fun t ht => hf t (mem_mods_append ht).1
    cases e with
    | normal =>
      refine wp_mono (codeW_sound y Q s' w' a' ha' hq) fun e a'' w'' hp => ?_
      obtain ⟨⟨s'', ha'', hf'', hq''⟩, h1, h2⟩ := hp
      exact ⟨⟨s'', ha'', fun t ht => by rw [hf'' t (mem_mods_append ht).2, wide t ht], hq''⟩, h1, h2⟩
    | exit id => exact ⟨⟨s', ha', wide, hq⟩, h1, h2⟩
    | goto l => exact ⟨⟨s', ha', wide, hq⟩, h1, h2⟩
    | ret => exact ⟨⟨s', ha', wide, hq⟩, h1, h2⟩
    | panic c => exact absurd rfl (h1 c)
    | outgrown => exact absurd rfl h2
  | .cond c x y, Q, s, w, a, ha, h => by
    have un : ∀ {M : List Nat} {e : Exit} {a' : Act} {w' : World}, Post N M (calm Q) s.ρ e a' w' → Post N M Q s.ρ e a' w' := by
      intro M e a' w' hp
      obtain ⟨⟨s', ha', hf, hq⟩, h1, h2⟩ := hp
      cases e with
      | normal => exact ⟨⟨s'.reset, ha', hf, hq⟩, h1, h2⟩
      | exit id => exact ⟨⟨s', ha', hf, hq⟩, h1, h2⟩
      | goto l => exact ⟨⟨s', ha', hf, hq⟩, h1, h2⟩
      | ret => exact ⟨⟨s', ha', hf, hq⟩, h1, h2⟩
      | panic c => exact absurd rfl (h1 c)
      | outgrown => exact absurd rfl h2
    have fin : ∀ t : Bool, s.ρ.ev c = .bool t → (bif t then codeW P N lv x (calm Q) s.reset w else codeW P N lv y (calm Q) s.reset w) → (Code.cond c x y).wp P (Post N (mods (.cond c x y)) Q s.ρ) a w := by
      intro t ht h
      refine wp_cond (t := t) (by rw [ha.eval]; exact ht) ?_
      cases t with
      | true =>
        refine wp_mono (codeW_sound x _ s.reset w a ha h) fun e a' w' hp => ?_
        obtain ⟨⟨s', ha', hf, hq⟩, h12⟩ := un hp
        exact ⟨⟨s', ha', fun t ht => hf t (mem_mods_append ht).1, hq⟩, h12⟩
      | false =>
        refine wp_mono (codeW_sound y _ s.reset w a ha h) fun e a' w' hp => ?_
        obtain ⟨⟨s', ha', hf, hq⟩, h12⟩ := un hp
        exact ⟨⟨s', ha', fun t ht => hf t (mem_mods_append ht).2, hq⟩, h12⟩
    unfold codeW at h
    cases hk : knownOp s.kn c with
    | true =>
      simp only [hk, cond_true] at h
      split at h
      · rename_i t ht; exact fin t ht h
      · exact h.elim
    | false =>
      simp only [hk, cond_false] at h
      obtain ⟨b, hb, h1, h2⟩ := h
      cases b with
      | true => exact fin true hb (h1 rfl)
      | false => exact fin false hb (h2 rfl)
  | .block id body, Q, s, w, a, ha, h => by
    refine wp_block (wp_mono (codeW_sound body _ s.reset w a ha h) fun e a' w' hp => ?_)
    obtain ⟨⟨s', ha', hf, hq⟩, h1, h2⟩ := hp
    cases e with
    | exit i =>
      dsimp only at hq
      dsimp only [Exit.inBlock]
      by_cases hi : i = id
      · rw [if_pos hi]
        have hb : Nat.beq i id = true := by subst hi; simp
        rw [hb] at hq
        exact ⟨⟨s'.reset, ha', hf, hq⟩, by simp, by simp⟩
      · rw [if_neg hi]
        have hb : Nat.beq i id = false := by
          cases hb : Nat.beq i id with
          | false => rfl
          | true => exact absurd (Nat.eq_of_beq_eq_true hb) hi
        rw [hb] at hq
        exact ⟨⟨s', ha', hf, hq⟩, by simp, by simp⟩
    | normal => exact ⟨⟨s'.reset, ha', hf, hq⟩, h1, h2⟩
    | goto l => exact ⟨⟨s', ha', hf, hq⟩, h1, h2⟩
    | ret => exact ⟨⟨s', ha', hf, hq⟩, h1, h2⟩
    | panic c => exact absurd rfl (h1 c)
    | outgrown => exact absurd rfl h2
  | .loop body, Q, s, w, a, ha, h => by
    obtain ⟨I, ⟨n, h0⟩, hround⟩ := h
    refine wp_loop_n (fun n a' w' => ∃ ρ' : Env, Agree N a' ρ' ∧ (∀ t, t ∉ mods body → ρ' t = s.ρ t) ∧ I n ((liveOf lv (loopKey body)).map ρ') w') (n := n) ⟨s.ρ, ha, fun _ _ => rfl, h0⟩ ?_
    rintro n a' w' ⟨ρ', ha', hf, hI⟩
    have hb := hround ρ' n _ w' hI
    dsimp only at hb
    rw [havoc_same hf] at hb
    refine wp_mono (codeW_sound body _ ⟨ρ', []⟩ w' a' ha' hb) fun e a'' w'' hp => ?_
    obtain ⟨⟨s'', ha'', hf'', hq⟩, h1, h2⟩ := hp
    have wide : ∀ t, t ∉ mods (.loop body) → s''.ρ t = s.ρ t := fun t ht => by rw [hf'' t ht]; exact hf t ht
    cases e with
    | normal =>
      obtain ⟨m, hm, hI'⟩ := hq
      exact ⟨m, hm, s''.ρ, ha'', wide, hI'⟩
    | exit id => exact ⟨⟨s'', ha'', wide, hq⟩, h1, h2⟩
    | goto l => exact ⟨⟨s'', ha'', wide, hq⟩, h1, h2⟩
    | ret => exact ⟨⟨s'', ha'', wide, hq⟩, h1, h2⟩
    | panic c => exact absurd rfl (h1 c)
    | outgrown => exact absurd rfl h2
  | .rangeFunc f params assign body, Q, s, w, a, ha, h => by simp only [codeW] at h
  | .scope body, Q, s, w, a, ha, h => by simp only [codeW] at h
  | .refuse why, Q, s, w, a, ha, h => by simp only [codeW] at h
theorem mods_found {l : Nat} : ∀ {c rest : Code}, findLabel c l = some rest → ∀ t, t ∉ mods c → t ∉ mods rest := by
  intro c
  induction c with
  | seq x y ihx ihy =>
    intro rest h t ht
    have ht' := mem_mods_append ht
    simp only [findLabel] at h
    cases hx : findLabel x l with
    | some r =>
      rw [hx] at h
      simp at h
      subst h
      show t ∉ mods r ++ mods y
      simp only [List.mem_append, not_or]
      exact ⟨ihx hx t ht'.1, ht'.2⟩
    | none =>
      rw [hx] at h
      simp at h
      exact ihy h t ht'.2
  | label l' =>
    intro rest h t ht
    simp only [findLabel] at h
    split at h
    · cases h; simp [mods]
    · cases h
  | _ => intro rest h; simp [findLabel] at h
theorem scopeW_sound {c : Code} {Q : Exit → St → World → Prop} {s : St} {w : World} {a : Act} (ha : Agree N a s.ρ) (h : scopeW P N lv c Q s w) : (Code.scope c).wp P (Post N (mods c) Q s.ρ) a w := by
  unfold scopeW at h
  split at h <;> first | exact h.elim | skip
  rename_i l hl
  split at h <;> first | exact h.elim | skip
  rename_i rest hrest
  obtain ⟨I, hfirst, hpass⟩ := h
  refine wp_scope_n l (fun n a' w' => ∃ ρ' : Env, Agree N a' ρ' ∧ (∀ t, t ∉ mods c → ρ' t = s.ρ t) ∧ I n ((liveOf lv (loopKey c)).map ρ') w') hrest ?_ ?_
  · refine wp_mono (codeW_sound c _ s.reset w a ha hfirst) fun e a' w' hp => ?_
    obtain ⟨⟨s', ha', hf, hq⟩, h1, h2⟩ := hp
    cases e with
    | goto l' =>
      dsimp only at hq
      cases hb : Nat.beq l' l with
      | false => simp [hb] at hq
      | true =>
        rw [hb] at hq
        obtain ⟨n, hn⟩ := hq
        exact ⟨Nat.eq_of_beq_eq_true hb, n, s'.ρ, ha', hf, hn⟩
    | normal => exact ⟨⟨s', ha', hf, hq⟩, h1, h2⟩
    | exit id => exact ⟨⟨s', ha', hf, hq⟩, h1, h2⟩
    | ret => exact ⟨⟨s', ha', hf, hq⟩, h1, h2⟩
    | panic c => exact absurd rfl (h1 c)
    | outgrown => exact absurd rfl h2
  · rintro n a' w' ⟨ρ', ha', hf, hI⟩
    have hb := hpass ρ' n _ w' hI
    dsimp only at hb
    rw [havoc_same hf] at hb
    refine wp_mono (codeW_sound rest _ ⟨ρ', []⟩ w' a' ha' hb) fun e a'' w'' hp => ?_
    obtain ⟨⟨s'', ha'', hf'', hq⟩, h1, h2⟩ := hp
    have wide : ∀ t, t ∉ mods c → s''.ρ t = s.ρ t := fun t ht => by rw [hf'' t (mods_found hrest t ht)]; exact hf t ht
    cases e with
    | goto l' =>
      dsimp only at hq
      cases hb : Nat.beq l' l with
      | false => simp [hb] at hq
      | true =>
        rw [hb] at hq
        obtain ⟨m, hm, hn⟩ := hq
        exact ⟨Nat.eq_of_beq_eq_true hb, m, hm, s''.ρ, ha'', wide, hn⟩
    | normal => exact ⟨⟨s'', ha'', wide, hq⟩, h1, h2⟩
    | exit id => exact ⟨⟨s'', ha'', wide, hq⟩, h1, h2⟩
    | ret => exact ⟨⟨s'', ha'', wide, hq⟩, h1, h2⟩
    | panic c => exact absurd rfl (h1 c)
    | outgrown => exact absurd rfl h2
theorem topW_sound {c : Code} {Q : Exit → St → World → Prop} {s : St} {w : World} {a : Act} (ha : Agree N a s.ρ) (h : topW P N lv c Q s w) : c.wp P (fun e a w => (∃ s', Agree N a s'.ρ ∧ Q e s' w) ∧ (∀ c, e ≠ .panic c) ∧ e ≠ .outgrown) a w := by
  unfold topW at h
  split at h
  · rename_i x b
    refine wp_seq (wp_mono (codeW_sound x _ s w a ha h) fun e a' w' hp => ?_)
    obtain ⟨⟨s', ha', hf, hq⟩, h1, h2⟩ := hp
    cases e with
    | normal => exact wp_mono (scopeW_sound ha' hq) fun e a'' w'' ⟨⟨s'', ha'', _, hq''⟩, h12⟩ => ⟨⟨s'', ha'', hq''⟩, h12⟩
    | exit id => exact ⟨⟨s', ha', hq⟩, h1, h2⟩
    | goto l => exact ⟨⟨s', ha', hq⟩, h1, h2⟩
    | ret => exact ⟨⟨s', ha', hq⟩, h1, h2⟩
    | panic c => exact absurd rfl (h1 c)
    | outgrown => exact absurd rfl h2
  · exact wp_mono (scopeW_sound ha h) fun e a'' w'' ⟨⟨s'', ha'', _, hq''⟩, h12⟩ => ⟨⟨s'', ha'', hq''⟩, h12⟩
  · exact wp_mono (codeW_sound _ _ s w a ha h) fun e a'' w'' ⟨⟨s'', ha'', _, hq''⟩, h12⟩ => ⟨⟨s'', ha'', hq''⟩, h12⟩
def resOf (tmps : Array Value) (x : ResultVar) : Sem Value := match x with
  | .tmp t => pure (tmps.getD t undef)
  | .cell a t => do loadVar t (← asAddr (tmps.getD a undef))
theorem results_eq (fn : Func) (tmps : Array Value) : results fn tmps = (do
    let vs ← fn.results.mapM (resOf tmps)
    pure (if h : vs.size = 1 then vs[0] else .tuple vs)) := by
  unfold results
  congr 2
theorem resW_run {k : Value → World → Prop} {ρ : Env} {w : World} {tmps : Array Value} (ht : ∀ t, tmps.getD t undef = ρ t) : ∀ (rs : List ResultVar) (acc : List Value), resW P k rs acc ρ w →
    ∃ vs : List Value, (rs.mapM (resOf tmps)).run P w = .ok vs w ∧ k (tupOf (acc ++ vs)) w
  | [], acc, h => ⟨[], by simp, by simpa [resW] using h⟩
  | .tmp t :: rs, acc, h => by
    obtain ⟨vs, hr, hk⟩ := resW_run ht rs _ h
    refine ⟨ρ t :: vs, ?_, by simpa using hk⟩
    have e1 : (resOf tmps (.tmp t)).run P w = .ok (ρ t) w := by rw [← ht]; rfl
    simp only [List.mapM_cons, Sem.run_bind, Sem.run_pure, Result.andThen_ok, hr, e1]
  | .cell c T :: rs, acc, h => by
    unfold resW at h
    split at h <;> first | exact h.elim | skip
    · rename_i n hn
      obtain ⟨a, vs0, hp, hl, hc, h⟩ := h
      obtain ⟨vs, hr, hk⟩ := resW_run ht rs _ h
      refine ⟨.agg vs0.toArray :: vs, ?_, by simpa using hk⟩
      obtain ⟨d, i, hd, hi, hnn⟩ := aggN_some hn
      have hf : aggD d = true ∧ i.size = n := by cases hh : aggD d with
        | false => simp [hh] at hnn
        | true => simp [hh] at hnn; exact ⟨rfl, hnn.symm⟩
      have hlc := run_loadCells_list (P := P) (w := w) a vs0 hc
      rw [hl] at hlc
      have hp' : tmps.getD c undef = .pointer (some a) := by rw [ht]; exact hp
      have e1 : (asAddr (.pointer (some a))).run P w = .ok a w := rfl
      have e2 : (loadVar T a).run P w = .ok (.agg vs0.toArray) w := by
        simp only [loadVar, Sem.run_bind, run_isAgg hd, hf.1, Result.andThen_ok, if_true, run_sizeOf' hi, hf.2, hlc, Sem.run_pure]
      have e3 : (resOf tmps (.cell c T)).run P w = (loadVar T a).run P w := by
        simp only [resOf, Sem.run_bind, hp', e1, Result.andThen_ok]
      simp only [List.mapM_cons, Sem.run_bind, e3, e2, Sem.run_pure, Result.andThen_ok, hr]
    · rename_i hn
      obtain ⟨a, v, hp, hc, h⟩ := h
      obtain ⟨vs, hr, hk⟩ := resW_run ht rs _ h
      refine ⟨v :: vs, ?_, by simpa using hk⟩
      obtain ⟨d, i, hd, hi, hnn⟩ := aggN_some hn
      have hf : aggD d = false := by cases hh : aggD d with
        | false => rfl
        | true => simp [hh] at hnn
      have hp' : tmps.getD c undef = .pointer (some a) := by rw [ht]; exact hp
      have e1 : (asAddr (.pointer (some a))).run P w = .ok a w := rfl
      have e2 : (loadVar T a).run P w = .ok v w := by
        simp only [loadVar, Sem.run_bind, run_isAgg hd, hf, Result.andThen_ok, Bool.false_eq_true, if_false, run_load, hc]
      have e3 : (resOf tmps (.cell c T)).run P w = (loadVar T a).run P w := by
        simp only [resOf, Sem.run_bind, hp', e1, Result.andThen_ok]
      simp only [List.mapM_cons, Sem.run_bind, e3, e2, Sem.run_pure, Result.andThen_ok, hr]
/-- **what a function's body asks makes its call hold.** -/
theorem calls_of_body {f : FuncId} {fn : Func} {args : List Value} {k : Value → World → Prop} {w : World} (hf : P.funcs[f]? = some fn) (h : bodyW P lv fn args k w) (hn : args.length ≤ fn.ntmps) : CallsR P f args.toArray k w := by
  unfold bodyW at h
  split at h <;> first | exact h.elim | skip
  rename_i c hc
  have hargs : ∀ t, (args.toArray ++ Array.replicate (fn.ntmps - args.toArray.size) undef).getD t undef = args.getD t undef := by
    intro t
    simp only [Array.getD_eq_getD_getElem?, Array.getElem?_append, List.size_toArray, List.getElem?_toArray, Array.getElem?_replicate, List.getD_eq_getElem?_getD]
    by_cases h1 : t < args.length
    · simp [h1]
    · simp [h1, List.getElem?_eq_none (Nat.le_of_not_lt h1)]
      split <;> rfl
  refine calls_of_wp hf hc (wp_mono (topW_sound (N := fn.ntmps) ⟨?_, rfl, hargs⟩ h) fun e a w' hp => ?_)
  · simp; omega
  · obtain ⟨⟨s', ha', hq⟩, h1, h2⟩ := hp
    have fin : resW P k fn.results.toList [] s'.ρ w' → a.defers = [] ∧ ∃ v, (results fn a.tmps).run P w' = .ok v w' ∧ Ret k (.returned v) w' := by
      intro hres
      obtain ⟨vs, hr, hk⟩ := resW_run ha'.at_ _ _ hres
      refine ⟨ha'.defers, _, ?_, hk⟩
      have hm : (fn.results.mapM (resOf a.tmps)).run P w' = .ok vs.toArray w' := by
        rw [Array.mapM_eq_mapM_toList, Sem.run_map, hr]
        rfl
      rw [results_eq, Sem.run_bind, hm]
      simp only [Result.andThen_ok, Sem.run_pure, List.nil_append]
      match vs with
      | [] => rfl
      | [v] => rfl
      | v :: u :: r => rfl
    cases e with
    | normal => exact fin hq
    | ret => exact fin hq
    | exit id => exact hq.elim
    | goto l => exact hq.elim
    | panic c => exact absurd rfl (h1 c)
    | outgrown => exact absurd rfl h2
end
end Go.Wx
end
section
namespace Go.W
open Go Go.Wx
abbrev K := Value → World → Prop
abbrev ld (w : World) (p : Value) (k : K) : Prop := Load1 k w p
abbrev ldN (w : World) (n : Nat) (p : Value) (k : K) : Prop := LoadN k w n p
abbrev new (w : World) (T : TypeId) (cs : Array Value) (k : K) : Prop := New k w cs T
abbrev box (w : World) (T : TypeId) (v : Value) (k : K) : Prop := New k w v.cells T
abbrev add (w : World) (n : Nat) (p : Value) (k : K) : Prop := PtrAdd k w n p
abbrev nn (w : World) (p : Value) (k : K) : Prop := NilCheck k w p
abbrev bin (w : World) (op : BinOp) (x y : Value) (k : K) : Prop := BinI k w op x y
abbrev eq (w : World) (neg c : Bool) (q : EqK) (x y : Value) (k : K) : Prop := EqV k w neg c q x y
abbrev un (w : World) (op : UnOp) (x : Value) (k : K) : Prop := Un k w op x
abbrev conv (w : World) (j : IntKind) (x : Value) (k : K) : Prop := ConvI k w j x
abbrev pick (w : World) (c a b : Value) (k : K) : Prop := Pick k w c a b
abbrev tup (w : World) (i : Nat) (t : Value) (k : K) : Prop := Extract k w i t
abbrev fld (w : World) (n : Option Nat) (off : Nat) (x : Value) (k : K) : Prop := FieldV k w n off x
abbrev idx (w : World) (size : Nat) (x i : Value) (k : K) : Prop := IdxS k w size x i
abbrev idxA (w : World) (len size : Nat) (x i : Value) (k : K) : Prop := IdxA k w len size x i
abbrev idxV (w : World) (len size : Nat) (n : Option Nat) (x i : Value) (k : K) : Prop := IdxV k w len size n x i
abbrev cut (w : World) (size : Nat) (x : Value) (lo hi mx : Option Value) (k : K) : Prop := CutS k w size x lo hi mx
abbrev len (w : World) (x : Value) (k : K) : Prop := Len k w x
abbrev lenStr (w : World) (x : Value) (k : K) : Prop := LenStr k w x
abbrev cap (w : World) (x : Value) (k : K) : Prop := Cap k w x
abbrev ext (w : World) (mx : Bool) (x y : Value) (k : K) : Prop := Ext k w mx x y
abbrev lkp (w : World) (zero : Value) (ok : Bool) (m key : Value) (k : K) : Prop := LookI k w zero ok m key
abbrev lenM (w : World) (x : Value) (k : K) : Prop := LenM k w x
abbrev mput (w : World) (m key v : Value) (k : K) : Prop := MapPut k w m key v
abbrev mdel (w : World) (m key : Value) (k : K) : Prop := MapDel k w m key
abbrev nmap (w : World) (k : K) : Prop := NewMap k w
abbrev st (w : World) (n : Nat) (p v : Value) (k : K) : Prop := Store k w n p v
abbrev bld (w : World) (places : Array (Nat × Nat)) (zero : Array Value) (parts : List (Nat × Value)) (k : K) : Prop := Build k w places zero parts
abbrev bldA (w : World) (size : Nat) (zero : Array Value) (parts : List (Nat × Value)) (k : K) : Prop := BuildA k w size zero parts
abbrev bldS (w : World) (elem : TypeId) (len size : Nat) (zero : List Value) (parts : List (Nat × Value)) (k : K) : Prop := BuildS k w elem len size (zeroRow len zero) parts
abbrev app (w : World) (elem : TypeId) (size bytes : Nat) (zero : Array Value) (s x : Value) (k : K) : Prop := Append k w elem size bytes zero s x
abbrev appZ (w : World) (elem : TypeId) (size bytes : Nat) (zero : Array Value) (s x : Value) (k : K) : Prop := AppendZ k w elem size bytes zero s x
abbrev clr (w : World) (zero : Array Value) (x : Value) (k : K) : Prop := ClearS k w zero x
abbrev cpy (w : World) (size : Nat) (d s : Value) (k : K) : Prop := CopyS k w size d s
abbrev mks (w : World) (elem : TypeId) (size bytes : Nat) (zero : Array Value) (l c : Value) (k : K) : Prop := MakeS k w elem size bytes zero l c
abbrev raw (P : Program) (w : World) (s : Sem Value) (k : K) : Prop := RawV k w P s
abbrev rawU (P : Program) (w : World) (s : Sem Unit) (k : K) : Prop := RawU k w P s
abbrev does (P : Program) (w : World) (s : Sem Next) (k : K) : Prop := Does P s k w
abbrev call (P : Program) (w : World) (f : FuncId) (args : List Value) (k : K) : Prop := CallsR P f args.toArray k w
abbrev callV (P : Program) (w : World) (f : Value) (args : List Value) (k : K) : Prop := CallV k w P f args.toArray
abbrev draw (w : World) (k : World → Prop) : Prop := k { w with drawn := w.drawn + 1 }
abbrev drawS (w : World) (k : (World → Prop) → World → Prop) : Prop := ∃ S : World → Prop, k S { w with drawn := w.drawn + 1 }
abbrev held (S : World → Prop) (w : World) (op : World → K → Prop) (k : K) : Prop := HeldW S (fun k w => op w k) k w
def Br (v : Value) (A B : Prop) : Prop := ∃ b, v = .bool b ∧ (b = true → A) ∧ (b = false → B)
abbrev loop (ini : List Value) (w : World) (body : (Nat → Value) → List Value → (List Value → World → Prop) → World → Prop) : Prop := LoopW ini w body
abbrev jump (first : (List Value → World → Prop) → Prop) (pass : (Nat → Value) → List Value → (List Value → World → Prop) → World → Prop) : Prop := JumpW first pass
abbrev at' (s : List Value) (i : Nat) : Value := s.getD i undef
end Go.W
end
