/- A wp over the model's code, as one function by recursion on the code, sound for 'Code.wp': what a body asks is then a plain proposition over numbers, cells and calls. No condition. What each operation of the model asks, worked out over the program's tables; sound for 'Oper.wp'. No condition. 'opW' is sound: what it asks makes the operation's own wp hold. No condition. 'opW' is sound, second part: slices, maps, builtins, calls. No condition. 'opW' is sound, third part: append, copy, the whole. No condition. -/
import Derived.StillTail
import Derived.ScopeJumps
import Derived.Laws.Sem
import Derived.Laws.Entries
import Derived.Laws.Cells
import Derived.Laws.Build
import Derived.Laws.Slices
set_option linter.all false
set_option linter.unusedVariables false
set_option linter.unusedSimpArgs false
set_option linter.unnecessarySimpa false
set_option linter.unusedSectionVars false
set_option linter.constructorNameAsVariable false
section
namespace Go.Wx
open Go

/-! ### Calls that return -/
def Ret (k : Value → World → Prop) : Ending → World → Prop
  | .returned v, w => k v w
  | _, _ => False
def CallsR (P : Program) (f : FuncId) (args : Array Value) (k : Value → World → Prop) (w : World) : Prop := Calls P f args w (Ret k)
theorem CallsR.mono {P : Program} {f : FuncId} {args : Array Value} {k k' : Value → World → Prop} {w : World} (h : CallsR P f args k w) (hk : ∀ v w', k v w' → k' v w') : CallsR P f args k' w :=
  Calls.mono h fun e w' he => by cases e <;> first | exact hk _ _ he | exact he

/-! ### Slots -/
abbrev Env := Nat → Value
def Env.put (ρ : Env) (d : Nat) (v : Value) : Env := fun n => bif Nat.beq n d then v else ρ n
def Env.putO (ρ : Env) (d : Option Nat) (v : Value) : Env := match d with
  | some d => ρ.put d v
  | none => ρ
def Env.ev (ρ : Env) : Operand → Value
  | .tmp t => ρ t
  | .const v => v
  | .global g => .pointer (some ⟨g, 0, none⟩)
  | .func f => .func (.func f) #[] #[]
structure Agree (N : Nat) (a : Act) (ρ : Env) : Prop where
  size : a.tmps.size = N
  defers : a.defers = []
  at_ : ∀ t, a.tmps.getD t undef = ρ t
theorem Agree.eval {N : Nat} {a : Act} {ρ : Env} (h : Agree N a ρ) : a.eval = ρ.ev := by
  funext x; cases x <;> first | exact h.at_ _ | rfl
theorem Env.put_same (ρ : Env) (d : Nat) (v : Value) : ρ.put d v d = v := by simp [Env.put]
theorem Env.put_ne (ρ : Env) {d n : Nat} (v : Value) (h : n ≠ d) : ρ.put d v n = ρ n := by
  have : Nat.beq n d = false := by cases hb : Nat.beq n d with
    | false => rfl
    | true => exact absurd (Nat.eq_of_beq_eq_true hb) h
  simp [Env.put, this]
theorem Agree.put {N : Nat} {a : Act} {ρ : Env} (h : Agree N a ρ) {d : Nat} (hd : d < N) (v : Value) : Agree N (a.put (some d) v) (ρ.put d v) := by
  refine ⟨by simp [Act.put, h.size], by simp [Act.put, h.defers], fun t => ?_⟩
  have hs := h.size
  by_cases e : t = d
  · subst e
    rw [Env.put_same]
    simp [Act.put, Array.getD, hs, hd]
  · rw [Env.put_ne _ _ e, ← h.at_ t]
    have : d ≠ t := fun x => e x.symm
    simp [Act.put, Array.getElem?_setIfInBounds_ne this]
theorem Agree.putO {N : Nat} {a : Act} {ρ : Env} (h : Agree N a ρ) {d : Option Nat} (hd : ∀ x, d = some x → x < N) (v : Value) : Agree N (a.put d v) (ρ.putO d v) := by
  cases d with
  | none => exact h
  | some x => exact h.put (hd x rfl) v

/-- so many zero values, one behind the other. -/
def zeroRow (len : Nat) (z : List Value) : Array Value := (List.replicate len z).flatten.toArray

/-! ### What an operation asks -/
section ops
variable (k : Value → World → Prop) (w : World)
def Load1 (p : Value) : Prop := ∃ a v, p = .pointer (some a) ∧ w.cell? a = some v ∧ k v w
def LoadN (n : Nat) (p : Value) : Prop := ∃ (a : Addr) (vs : List Value), p = .pointer (some a) ∧ vs.length = n ∧ (∀ j v, vs[j]? = some v → w.cell? (a.add j) = some v) ∧ k (.agg vs.toArray) w
def New (cs : Array Value) (T : TypeId) : Prop := k (.pointer (some ⟨w.heap.size, 0, none⟩)) (w.alloc (.cells cs T))
def PtrAdd (n : Nat) (p : Value) : Prop := ∃ a, p = .pointer (some a) ∧ k (.pointer (some (a.add n))) w
def nonNil : Value → Bool
  | .pointer none | .nilIface | .nilFunc | .func (.method _) _ _ => false
  | _ => true
def NilCheck (p : Value) : Prop := nonNil p = true ∧ k p w
def intBin (op : BinOp) : Value → Value → Option Value
  | .int j a, .int i b => match op with
    | .shl => if b < 0 then none else some (.int j (j.wrap (a * 2 ^ min b.toNat j.bits)))
    | .shr => if b < 0 then none else some (.int j (a.fdiv (2 ^ min b.toNat j.bits)))
    | .add => if j = i then some (.int j (j.wrap (a + b))) else none
    | .sub => if j = i then some (.int j (j.wrap (a - b))) else none
    | .mul => if j = i then some (.int j (j.wrap (a * b))) else none
    | .quo => if j = i ∧ b ≠ 0 then some (.int j (j.wrap (a.tdiv b))) else none
    | .rem => if j = i ∧ b ≠ 0 then some (.int j (a.tmod b)) else none
    | .and => if j = i then some (.int j (bits .and j a b)) else none
    | .or => if j = i then some (.int j (bits .or j a b)) else none
    | .xor => if j = i then some (.int j (bits .xor j a b)) else none
    | .andNot => if j = i then some (.int j (bits .andNot j a b)) else none
    | .eql => if j = i then some (.bool (a == b)) else none
    | .neq => if j = i then some (.bool (a != b)) else none
    | .lss => if j = i then some (.bool (a < b)) else none
    | .leq => if j = i then some (.bool (a ≤ b)) else none
    | .gtr => if j = i then some (.bool (a > b)) else none
    | .geq => if j = i then some (.bool (a ≥ b)) else none
  | _, _ => none
def BinI (op : BinOp) (x y : Value) : Prop := ∃ v, intBin op x y = some v ∧ k v w
/-- kinds of types whose values are held against nil, or are bools or strings. -/
inductive EqK where
  | bool | ptr | str | slice | map | func | iface
  deriving DecidableEq
def eqBool : Value → Value → Option Bool
  | .bool a, .bool b => some (a == b)
  | _, _ => none
def eqPtr : Value → Value → Option Bool
  | .pointer none, .pointer b => some b.isNone
  | .pointer (some _), .pointer none => some false
  | _, _ => none
def eqStr : Value → Value → Option Bool
  | .string a, .string b => some (a.toList == b.toList)
  | _, _ => none
def eqSlice : Value → Value → Option Bool
  | .slice none _ _, .slice b _ _ => some b.isNone
  | .slice (some _) _ _, .slice none _ _ => some false
  | _, _ => none
def eqMap : Value → Value → Option Bool
  | .map none, .map b => some b.isNone
  | .map (some _), .map none => some false
  | _, _ => none
def eqFunc : Value → Value → Option Bool
  | .nilFunc, .nilFunc => some true
  | .nilFunc, .func _ _ _ => some false
  | .func _ _ _, .nilFunc => some false
  | _, _ => none
def eqIface (c : Bool) : Value → Value → Option Bool
  | .nilIface, .nilIface => if c then some true else none
  | .nilIface, .iface _ _ => some false
  | .iface _ _, .nilIface => some false
  | _, _ => none
def eqV (c : Bool) (q : EqK) (x y : Value) : Option Bool := match q with
  | .bool => eqBool x y
  | .ptr => eqPtr x y
  | .str => eqStr x y
  | .slice => eqSlice x y
  | .map => eqMap x y
  | .func => eqFunc x y
  | .iface => eqIface c x y
def EqV (neg : Bool) (c : Bool) (q : EqK) (x y : Value) : Prop := ∃ b, eqV c q x y = some b ∧ k (.bool (neg != b)) w
def unV : UnOp → Value → Option Value
  | .not, .bool b => some (.bool !b)
  | .neg, .int j n => some (.int j (j.wrap (0 - n)))
  | .xor, .int j n => some (.int j (bits .xor j (if j.signed then -1 else j.max) n))
  | _, _ => none
def Un (op : UnOp) (x : Value) : Prop := ∃ v, unV op x = some v ∧ k v w
def ConvI (j : IntKind) (x : Value) : Prop := ∃ i n, x = .int i n ∧ k (.int j (j.wrap n)) w
def Pick (c a b : Value) : Prop := ∃ t, c = .bool t ∧ k (if t then a else b) w
def tupV (i : Nat) : Value → Option Value
  | .tuple vs => vs[i]?
  | _ => none
def Extract (i : Nat) (t : Value) : Prop := ∃ v, tupV i t = some v ∧ k v w
def partV (n : Option Nat) (off : Nat) : Value → Option Value
  | .agg cs => match n with
    | some n => some (.agg (cs.extract off (off + n)))
    | none => cs[off]?
  | _ => none
def FieldV (n : Option Nat) (off : Nat) (x : Value) : Prop := ∃ v, partV n off x = some v ∧ k v w
def idxS (size : Nat) : Value → Value → Option Value
  | .slice (some a) len _, .int _ i => if 0 ≤ i ∧ i < len then some (.pointer (some (a.add (i.toNat * size)))) else none
  | _, _ => none
def IdxS (size : Nat) (x i : Value) : Prop := ∃ v, idxS size x i = some v ∧ k v w
def idxA (len size : Nat) : Value → Value → Option Value
  | .pointer (some a), .int _ i => if 0 ≤ i ∧ i < len then some (.pointer (some (a.add (i.toNat * size)))) else none
  | _, _ => none
def IdxA (len size : Nat) (x i : Value) : Prop := ∃ v, idxA len size x i = some v ∧ k v w
def idxV (len size : Nat) (n : Option Nat) : Value → Value → Option Value
  | .agg cs, .int _ i => if 0 ≤ i ∧ i < len then partV n (i.toNat * size) (.agg cs) else none
  | _, _ => none
def IdxV (len size : Nat) (n : Option Nat) (x i : Value) : Prop := ∃ v, idxV len size n x i = some v ∧ k v w
def bnd : Value → Nat → Option Nat
  | .int _ i, y => if 0 ≤ i ∧ i ≤ y then some i.toNat else none
  | _, _ => none
def cutV (size : Nat) (x : Value) (lo hi mx : Option Value) : Option Value :=
  match x with
  | .slice a len cap =>
    (match mx with | some v => bnd v cap | none => some cap).bind fun m =>
    (match hi, mx with | some v, _ => bnd v m | none, none => some len | none, some _ => none).bind fun h =>
    (match lo with | some v => bnd v h | none => some 0).bind fun l =>
    some (.slice (if m = l then a else a.map (fun x : Addr => x.add (l * size))) (h - l) (m - l))
  | _ => none
def CutS (size : Nat) (x : Value) (lo hi mx : Option Value) : Prop := ∃ v, cutV size x lo hi mx = some v ∧ k v w
def lenV : Value → Option Value
  | .slice _ n _ => some (.int .i64 n)
  | _ => none
def Len (x : Value) : Prop := ∃ v, lenV x = some v ∧ k v w
def lenStrV : Value → Option Value
  | .string s => some (.int .i64 s.size)
  | _ => none
def LenStr (x : Value) : Prop := ∃ v, lenStrV x = some v ∧ k v w
def capV : Value → Option Value
  | .slice _ _ n => some (.int .i64 n)
  | _ => none
def Cap (x : Value) : Prop := ∃ v, capV x = some v ∧ k v w
def extV (mx : Bool) : Value → Value → Option Value
  | .int j x, .int _ y => some (.int j (if mx then (if y > x then y else x) else (if y < x then y else x)))
  | _, _ => none
def Ext (mx : Bool) (x y : Value) : Prop := ∃ v, extV mx x y = some v ∧ k v w
/-- a map that is read. -/
def mapIs (w : World) : Value → List MapEntry → Prop
  | .map none, es => es = []
  | .map (some r), es => ∃ arr clock, w.heap[r]? = some (.map arr clock) ∧ es = arr.toList
  | _, _ => False
def keyI (key : Value) (es : List MapEntry) : Option (Option (Nat × Value)) := Instr.findNow (.int .i64) key es 0
def LookI (zero : Value) (ok : Bool) (m key : Value) : Prop := ∃ es r, mapIs w m es ∧ keyI key es = some r ∧
  k (match r with
    | some (_, v) => if ok then .tuple #[v, .bool true] else v
    | none => if ok then .tuple #[zero, .bool false] else zero) w
def LenM (x : Value) : Prop := ∃ es, mapIs w x es ∧ k (.int .i64 es.length) w
def World.setObj (w : World) (r : Nat) (o : Obj) : World := { w with heap := w.heap.setIfInBounds r o }
def MapPut (m key v : Value) : Prop := ∃ b arr clock r, m = .map (some b) ∧ w.heap[b]? = some (.map arr clock) ∧ keyI key arr.toList = some r ∧
  k undef (World.setObj w b (match r with
    | some (i, _) => .map (arr.modify i fun e => { e with key, val := v }) clock
    | none => .map (arr.push { key, val := v, born := clock }) (clock + 1)))
def MapDel (m key : Value) : Prop := (m = .map none ∧ k (.tuple #[]) w) ∨ ∃ b arr clock r, m = .map (some b) ∧ w.heap[b]? = some (.map arr clock) ∧ keyI key arr.toList = some r ∧
  k (.tuple #[]) (World.setObj w b (match r with
    | some (i, _) => .map (arr.eraseIdxIfInBounds i) clock
    | none => .map arr clock))
def NewMap : Prop := k (.map (some w.heap.size)) (w.alloc (.map #[] 0))
def putCells : World → Addr → Nat → List Value → Option World
  | w, _, _, [] => some w
  | w, a, i, v :: vs => if v.oneCell' && (w.cell? (a.add i)).isSome && !w.frozen? (a.add i) then putCells (w.setCell (a.add i) v) a (i + 1) vs else none
def Store (n : Nat) (p v : Value) : Prop := ∃ a w', p = .pointer (some a) ∧ v.cells.size = n ∧ putCells w a 0 v.cells.toList = some w' ∧ k undef w'
def Build (places : Array (Nat × Nat)) (zero : Array Value) (parts : List (Nat × Value)) : Prop := ∃ cells, Instr.fill (places[·]?) zero parts = some cells ∧ k (.agg cells) w
def BuildA (size : Nat) (zero : Array Value) (parts : List (Nat × Value)) : Prop := ∃ cells, Instr.fill (fun i => some (i * size, size)) zero parts = some cells ∧ k (.agg cells) w
def BuildS (elem : TypeId) (len size : Nat) (zero : Array Value) (parts : List (Nat × Value)) : Prop :=
  len * size ≤ 2 ^ 24 ∧ ∃ cells, Instr.fill (fun i => some (i * size, size)) zero parts = some cells ∧ k (.slice (some ⟨w.heap.size, 0, none⟩) len len) (w.alloc (.cells cells elem))
/-- the cells that a slice begins with. -/
def cellsOf (w : World) (x : Value) (n : Nat) (cs : List Value) : Prop := cs.length = n ∧
  match x with
  | .slice (some a) _ _ => ∀ j v, cs[j]? = some v → w.cell? (a.add j) = some v
  | .slice none _ _ => cs = []
  | _ => False
def sliceLen : Value → Nat
  | .slice _ n _ => n
  | _ => 0
def Append (elem : TypeId) (size bytes : Nat) (zero : Array Value) (s x : Value) : Prop :=
  ∃ base sLen sCap xb n xc, s = .slice base sLen sCap ∧ x = .slice xb n xc ∧
    ((sLen + n ≤ sCap ∧ ∃ new w', (xb = none → new = []) ∧ (xb ≠ none → cellsOf w x (n * size) new) ∧ (match base with | some a => putCells w (a.add (sLen * size)) 0 new = some w' | none => w' = w) ∧
        k (.slice base (sLen + n) sCap) w') ∨
     (sCap < sLen + n ∧ ((sLen + n : Nat) : Int) ≤ IntKind.i64.max ∧ Builtin.nextslicecap (sLen + n) sCap * bytes ≤ 2 ^ 48 ∧ ∃ old new, (base = none → old = []) ∧ (base ≠ none → cellsOf w s (sLen * size) old) ∧ (xb = none → new = []) ∧ (xb ≠ none → cellsOf w x (n * size) new) ∧
        ∀ c, sLen + n ≤ c → k (.slice (some ⟨w.heap.size, 0, none⟩) (sLen + n) c) ({ w with drawn := w.drawn + 1 }.alloc (.cells (old.toArray ++ new.toArray ++ zeroRow (c - (sLen + n)) zero.toList) elem))))
def AppendZ (elem : TypeId) (size bytes : Nat) (zero : Array Value) (s x : Value) : Prop :=
  ∃ base sLen sCap j m, s = .slice base sLen sCap ∧ x = .int j (m : Nat) ∧ m ≤ 2 ^ 62 ∧ m * bytes ≤ 2 ^ 48 ∧ zero.size = size ∧
    ((sLen + m ≤ sCap ∧ ∃ w', (match base with | some a => putCells w (a.add (sLen * size)) 0 (zeroRow m zero.toList).toList = some w' | none => w' = w) ∧ k (.slice base (sLen + m) sCap) w') ∨
     (sCap < sLen + m ∧ ((sLen + m : Nat) : Int) ≤ IntKind.i64.max ∧ Builtin.nextslicecap (sLen + m) sCap * bytes ≤ 2 ^ 48 ∧ ∃ old, (base = none → old = []) ∧ (base ≠ none → cellsOf w s (sLen * size) old) ∧
        ∀ c, sLen + m ≤ c → k (.slice (some ⟨w.heap.size, 0, none⟩) (sLen + m) c) ({ w with drawn := w.drawn + 1 }.alloc (.cells (old.toArray ++ zeroRow m zero.toList ++ zeroRow (c - (sLen + m)) zero.toList) elem))))
def ClearS (zero : Array Value) (x : Value) : Prop :=
  ∃ base n c w', x = .slice base n c ∧ (match base with | some a => putCells w a 0 (zeroRow n zero.toList).toList = some w' | none => w' = w) ∧ k (.tuple #[]) w'
def CopyS (size : Nat) (d s : Value) : Prop :=
  ∃ base dl dc sb sl sc new w', d = .slice base dl dc ∧ s = .slice sb sl sc ∧ (sb = none → new = []) ∧ (sb ≠ none → cellsOf w s (min sl dl * size) new) ∧
    (match base with | some a => putCells w a 0 new = some w' | none => w' = w) ∧ k (.int .i64 (min sl dl : Nat)) w'
def MakeS (elem : TypeId) (size bytes : Nat) (zero : Array Value) (l c : Value) : Prop :=
  ∃ j n i m, l = .int j n ∧ c = .int i m ∧ 0 ≤ n ∧ n ≤ m ∧ m ≤ 2 ^ 62 ∧ (bytes : Int) * m ≤ 2 ^ 48 ∧ zero.size = size ∧
    k (.slice (some ⟨w.heap.size, 0, none⟩) n.toNat m.toNat) (w.alloc (.cells (zeroRow m.toNat zero.toList) elem))
def RawV (P : Program) (s : Sem Value) : Prop := ∃ v w', s.run P w = .ok v w' ∧ k v w'
def RawU (P : Program) (s : Sem Unit) : Prop := ∃ w', s.run P w = .ok () w' ∧ k undef w'
/-- may function f be entered? -/
def mayEnter (P : Program) (f : FuncId) : Bool := match P.funcs[f]? with
  | some fn => fn.body.isSome && !(fn.name == "runtime.NumGoroutine")
  | none => false
def CallF (P : Program) (f : FuncId) (args : Array Value) : Prop := mayEnter P f = true ∧ CallsR P f args k w
def CallV (P : Program) (fv : Value) (args : Array Value) : Prop := ∃ f first cap, fv = .func (.func f) first cap ∧ mayEnter P f = true ∧ CallsR P f (first ++ args ++ cap) k w
end ops
end Go.Wx
end
section
namespace Go.Wx
open Go

/-- What the run of an operation's meaning is asked. -/
def Does (P : Program) (s : Sem Next) (k : Value → World → Prop) (w : World) : Prop :=
  match s.run P w with
  | .ok (.value v) w' => k v w'
  | .ok .skip w' => k undef w'
  | .ok (.enter f args) w' => CallsR P f args k w'
  | .ok (.row r args) w' => Rows P r args w' k
  | _ => False

theorem wp_of_does {P : Program} {o : Oper} {a : Act} {w : World} {k : Value → World → Prop} {next : Act → World → Prop} {Q : Exit → Act → World → Prop}
    (h : Does P (execOp a.eval o) k w) (hk : ∀ v w', k v w' → next (a.put o.dst v) w') : o.wp P a w next Q := by
  unfold Oper.wp
  unfold Does at h
  generalize (execOp a.eval o).run P w = r at h
  cases r with
  | halt h' w' => exact h.elim
  | ok n w' =>
    cases n <;> simp only at h <;> first | exact h.elim | skip
    case value v => exact hk _ _ h
    case skip => exact hk _ _ h
    case enter f args => exact Calls.mono h fun e w'' he => by cases e <;> first | exact hk _ _ he | exact he.elim
    case row r args => exact Rows.mono h fun v w'' he => hk _ _ he

def zeroOf (P : Program) (t : TypeId) : Option Value := match P.info? t with
  | some i => i.zero
  | none => none
def aggD : TypeDesc → Bool
  | .struct _ | .array _ _ => true
  | _ => false
/-- none: no such type; 'some (some n)': of n cells, a struct or an array. -/
def aggN (P : Program) (t : TypeId) : Option (Option Nat) := match P.underlying t, P.info? t with
  | some d, some i => some (bif aggD d then some i.size else none)
  | _, _ => none
def placesL (P : Program) : List Field → Option (List (Nat × Nat))
  | [] => some []
  | f :: fs => match P.info? f.type, placesL P fs with
    | some i, some l => some ((f.offset, i.size) :: l)
    | _, _ => none
def eqKind : TypeDesc → Option EqK
  | .bool => some .bool
  | .pointer _ => some .ptr
  | .string => some .str
  | .slice _ => some .slice
  | .map _ _ => some .map
  | .func _ _ _ => some .func
  | .interface _ => some .iface
  | _ => none
def isC : Operand → Bool
  | .const _ => true
  | _ => false
def twoSided : EqK → Bool
  | .ptr | .iface => true
  | _ => false
def isIntT (P : Program) (T : TypeId) : Bool := match P.underlying T with
  | some (.int _) => true
  | _ => false
def eqOp : BinOp → Option Bool
  | .eql => some false
  | .neq => some true
  | _ => none
/-- is it an == or != of values that need no memory? which kind, and is it !=? -/
def eqMode (P : Program) (T : TypeId) (op : BinOp) (c : Bool) : Option (EqK × Bool) := match P.underlying T with
  | some d => match eqKind d with
    | some q => match eqOp op with
      | some neg => bif twoSided q && !c then none else some (q, neg)
      | none => none
    | none => none
  | none => none
def callW (P : Program) (c : Call) (type : TypeId) (ρ : Env) (k : Value → World → Prop) (w : World) : Prop :=
  match c.callee with
  | .value (.func f) => bif mayEnter P f then CallsR P f (c.args.toList.map ρ.ev).toArray k w else Does P (callFunc f (c.args.toList.map ρ.ev).toArray) k w
  | .value x => CallV k w P (ρ.ev x) (c.args.toList.map ρ.ev).toArray
  | .builtin .len => match (c.argTypes[0]?).bind P.underlying, c.args[0]? with
    | some (.slice _), some x => Len k w (ρ.ev x)
    | some .string, some x => LenStr k w (ρ.ev x)
    | some (.map _ _), some x => LenM k w (ρ.ev x)
    | some (.array n _), some _ => k (.int .i64 n) w
    | _, _ => False
  | .builtin .cap => match (c.argTypes[0]?).bind P.underlying, c.args[0]? with
    | some (.slice _), some x => Cap k w (ρ.ev x)
    | _, _ => False
  | .builtin .min => match c.args[0]?, c.args[1]?, c.args[2]? with
    | some x, some y, none => Ext k w false (ρ.ev x) (ρ.ev y)
    | _, _, _ => False
  | .builtin .max => match c.args[0]?, c.args[1]?, c.args[2]? with
    | some x, some y, none => Ext k w true (ρ.ev x) (ρ.ev y)
    | _, _, _ => False
  | .builtin .append => match (c.argTypes[0]?).bind P.underlying, (c.argTypes[1]?).bind P.underlying, c.args[0]?, c.args[1]? with
    | some (.slice e), some (.slice _), some s, some x => match P.info? e with
      | some i => match i.zero with
        | some z => Append k w e i.size i.bytes z.cells (ρ.ev s) (ρ.ev x)
        | none => False
      | none => False
    | some (.slice e), some (.int _), some s, some x => match P.info? e with
      | some i => match i.zero with
        | some z => AppendZ k w e i.size i.bytes z.cells (ρ.ev s) (ρ.ev x)
        | none => False
      | none => False
    | _, _, _, _ => False
  | .builtin .clear => match (c.argTypes[0]?).bind P.underlying, c.args[0]? with
    | some (.slice e), some x => match zeroOf P e with
      | some z => ClearS k w z.cells (ρ.ev x)
      | none => False
    | _, _ => False
  | .builtin .copy => match (c.argTypes[0]?).bind P.underlying, c.args[0]?, c.args[1]? with
    | some (.slice e), some d, some s => match P.info? e with
      | some i => CopyS k w i.size (ρ.ev d) (ρ.ev s)
      | none => False
    | _, _, _ => False
  | .builtin .delete => match (c.argTypes[0]?).bind P.underlying, c.args[0]?, c.args[1]? with
    | some (.map kt _), some m, some key => match P.underlying kt with
      | some (.int .i64) => MapDel k w (ρ.ev m) (ρ.ev key)
      | _ => False
    | _, _, _ => False
  | .builtin b => Does P (builtin b c.argTypes type (c.args.toList.map isC).toArray (c.args.toList.map ρ.ev).toArray) k w
  | .invoke r name => Does P (callMethod (ρ.ev r) name (c.args.toList.map ρ.ev).toArray) k w

def opW (P : Program) (o : Oper) (ρ : Env) (k : Value → World → Prop) (w : World) : Prop :=
  match o.op with
  | .move x | .assign x => k (ρ.ev x) w
  | .pick c a b => Pick k w (ρ.ev c) (ρ.ev a) (ρ.ev b)
  | .alloc T => match zeroOf P T with
    | some z => New k w z.cells T
    | none => False
  | .box T x => New k w (ρ.ev x).cells T
  | .build T parts => match P.underlying T, zeroOf P T with
    | some (.struct fs), some z => match placesL P fs.toList with
      | some l => Build k w l.toArray z.cells (parts.toList.map fun p => (p.1, ρ.ev p.2))
      | none => False
    | some (.array _ e), some z => match P.info? e with
      | some i => BuildA k w i.size z.cells (parts.toList.map fun p => (p.1, ρ.ev p.2))
      | none => False
    | _, _ => False
  | .buildSlice T len parts => match P.underlying T with
    | some (.slice e) => match P.info? e with
      | some i => match i.zero with
        | some z => bif Nat.beq z.cells.size i.size then BuildS k w e len i.size (zeroRow len z.cells.toList) (parts.toList.map fun p => (p.1, ρ.ev p.2)) else False
        | none => False
      | none => False
    | _ => False
  | .load T a => match aggN P T with
    | some (some n) => LoadN k w n (ρ.ev a)
    | some none => Load1 k w (ρ.ev a)
    | none => False
  | .store T a x => match P.info? T with
    | some i => Store k w i.size (ρ.ev a) (ρ.ev x)
    | none => False
  | .nilCheck x => NilCheck k w (ρ.ev x)
  | .binOp op T x y _ => bif isIntT P T then BinI k w op (ρ.ev x) (ρ.ev y) else
    match eqMode P T op (isC x || isC y) with
    | some (q, neg) => EqV k w neg (isC x || isC y) q (ρ.ev x) (ρ.ev y)
    | none => RawV k w P (do eqGuard op T x y (ρ.ev x) (ρ.ev y); binOp op T (ρ.ev x) (ρ.ev y))
  | .unOp op _ x => Un k w op (ρ.ev x)
  | .convert s d x => match P.underlying s, P.underlying d with
    | some _, some (.int j) => ConvI k w j (ρ.ev x)
    | _, _ => RawV k w P (convert s d (ρ.ev x))
  | .makeInterface T x => match P.underlying T with
    | some (.interface _) => False
    | some _ => k (.iface T (ρ.ev x)) w
    | none => False
  | .makeFunc fn first cap => k (.func fn (first.toList.map ρ.ev).toArray (cap.toList.map ρ.ev).toArray) w
  | .makeMap _ none => NewMap k w
  | .makeMap T (some r) => match P.underlying T with
    | some (.map _ _) => (∃ j n, ρ.ev r = .int j n) ∧ NewMap k w
    | _ => False
  | .makeSlice T l c => match P.underlying T with
    | some (.slice e) => match P.info? e with
      | some i => match i.zero with
        | some z => MakeS k w e i.size i.bytes z.cells (ρ.ev l) (ρ.ev c)
        | none => False
      | none => False
    | _ => False
  | .slice T x lo hi mx => match P.underlying T with
    | some (.slice e) => match P.info? e with
      | some i => CutS k w i.size (ρ.ev x) (lo.map ρ.ev) (hi.map ρ.ev) (mx.map ρ.ev)
      | none => False
    | _ => RawV k w P (Instr.sliceAt T (ρ.ev x) (lo.map ρ.ev) (hi.map ρ.ev) (mx.map ρ.ev))
  | .fieldAddr T x f => match P.underlying T with
    | some (.struct fs) => match fs[f]? with
      | some fd => match P.info? fd.type with
        | some i => bif Nat.beq i.size 0 then False else PtrAdd k w fd.offset (ρ.ev x)
        | none => False
      | none => False
    | _ => False
  | .field T x f => match P.underlying T with
    | some (.struct fs) => match fs[f]? with
      | some fd => match aggN P fd.type with
        | some n => FieldV k w n fd.offset (ρ.ev x)
        | none => False
      | none => False
    | _ => False
  | .indexAddr T x i => match P.underlying T with
    | some (.slice e) => match P.info? e with
      | some j => IdxS k w j.size (ρ.ev x) (ρ.ev i)
      | none => False
    | some (.array n e) => match P.info? e with
      | some j => IdxA k w n j.size (ρ.ev x) (ρ.ev i)
      | none => False
    | _ => False
  | .index T x i => match P.underlying T with
    | some (.array n e) => match P.info? e, aggN P e with
      | some j, some m => IdxV k w n j.size m (ρ.ev x) (ρ.ev i)
      | _, _ => False
    | _ => RawV k w P (Instr.index T (ρ.ev x) (ρ.ev i))
  | .lookup T m key ok => match P.underlying T with
    | some (.map kt e) => match P.underlying kt, zeroOf P e with
      | some (.int .i64), some z => LookI k w z ok (ρ.ev m) (ρ.ev key)
      | _, _ => RawV k w P (Instr.lookup T (ρ.ev m) (ρ.ev key) ok)
    | _ => False
  | .mapUpdate T m key v | .insert T m key v => match P.underlying T with
    | some (.map kt _) => match P.underlying kt with
      | some (.int .i64) => MapPut k w (ρ.ev m) (ρ.ev key) (ρ.ev v)
      | _ => RawU k w P (Instr.mapUpdate T (ρ.ev m) (ρ.ev key) (ρ.ev v))
    | _ => False
  | .extract t i => Extract k w i (ρ.ev t)
  | .range T x => RawV k w P (Instr.range T (ρ.ev x))
  | .next it s => RawV k w P (Instr.next (ρ.ev it) s o.type)
  | .entry it => RawV k w P (Instr.entry (ρ.ev it))
  | .typeAssert x xt at_ ok => RawV k w P (Instr.typeAssert (ρ.ev x) xt at_ ok)
  | .call c => callW P c o.type ρ k w
  | _ => False
end Go.Wx
end
section
namespace Go.Wx
open Go

theorem does_v {P : Program} {s : Sem Value} {k : Value → World → Prop} {w : World} (h : ∃ v w', s.run P w = .ok v w' ∧ k v w') : Does P (do pure (Next.value (← s))) k w := by
  obtain ⟨v, w', hr, hk⟩ := h
  simp only [Does, Sem.run_bind, hr, Result.andThen_ok, Sem.run_pure]
  exact hk
theorem does_u {P : Program} {s : Sem Unit} {k : Value → World → Prop} {w : World} (h : ∃ w', s.run P w = .ok () w' ∧ k undef w') : Does P (do s; pure Next.skip) k w := by
  obtain ⟨w', hr, hk⟩ := h
  simp only [Does, Sem.run_bind, hr, Result.andThen_ok, Sem.run_pure]
  exact hk
theorem does_p {P : Program} {v : Value} {k : Value → World → Prop} {w : World} (h : k v w) : Does P (pure (.value v)) k w := by
  simpa [Does] using h

section
variable {P : Program} {k : Value → World → Prop} {w : World}
theorem run_typeInfo {T : TypeId} {i : TypeInfo} (h : P.info? T = some i) : (typeInfo T).run P w = .ok i w := by simp [typeInfo, h]
theorem run_sizeOf' {T : TypeId} {i : TypeInfo} (h : P.info? T = some i) : (sizeOf T).run P w = .ok i.size w := by simp [sizeOf, run_typeInfo h]
theorem run_zero {T : TypeId} {z : Value} (h : zeroOf P T = some z) : (zeroValue T).run P w = .ok z w := by
  unfold zeroOf at h
  split at h
  · rename_i i hi; simp [zeroValue, run_typeInfo hi, h]
  · cases h
theorem aggN_some {T : TypeId} {n : Option Nat} (h : aggN P T = some n) : ∃ d i, P.underlying T = some d ∧ P.info? T = some i ∧ n = (bif aggD d then some i.size else none) := by
  unfold aggN at h
  split at h
  · rename_i d i hd hi; exact ⟨d, i, hd, hi, by simpa using h.symm⟩
  · cases h
theorem run_isAgg {T : TypeId} {d : TypeDesc} (h : P.underlying T = some d) : (isAgg T).run P w = .ok (aggD d) w := by
  simp only [isAgg, Sem.run_bind, run_underlying h, Result.andThen_ok]
  cases d <;> rfl
theorem run_part {T : TypeId} {n : Option Nat} {off : Nat} {cs : Array Value} {v : Value} (h : aggN P T = some n) (hv : partV n off (.agg cs) = some v) : (part T cs off).run P w = .ok v w := by
  obtain ⟨d, i, hd, hi, rfl⟩ := aggN_some h
  simp only [part, Sem.run_bind, run_isAgg hd, Result.andThen_ok]
  cases ha : aggD d with
  | true => simp [ha, partV] at hv; simp [run_sizeOf' hi, hv]
  | false => simp [ha, partV] at hv; simp [hv]

theorem does_load1 {T : TypeId} {p : Value} (ha : aggN P T = some none) (h : Load1 k w p) : ∃ v w', (Instr.loadAt T p).run P w = .ok v w' ∧ k v w' := by
  obtain ⟨a, v, rfl, hc, hk⟩ := h
  obtain ⟨d, i, hd, hi, hn⟩ := aggN_some ha
  have hf : aggD d = false := by cases hh : aggD d with
    | false => rfl
    | true => simp [hh] at hn
  exact ⟨v, w, by simp [Instr.loadAt, Instr.sureAddr, loadVar, run_isAgg hd, hf, hc], hk⟩
theorem does_loadN {T : TypeId} {p : Value} {n : Nat} (ha : aggN P T = some (some n)) (h : LoadN k w n p) : ∃ v w', (Instr.loadAt T p).run P w = .ok v w' ∧ k v w' := by
  obtain ⟨a, vs, rfl, hl, hc, hk⟩ := h
  obtain ⟨d, i, hd, hi, hn⟩ := aggN_some ha
  have hf : aggD d = true ∧ i.size = n := by cases hh : aggD d with
    | false => simp [hh] at hn
    | true => simp [hh] at hn; exact ⟨rfl, hn.symm⟩
  refine ⟨_, w, ?_, hk⟩
  have := run_loadCells_list (P := P) (w := w) a vs hc
  rw [hl] at this
  simp [Instr.loadAt, Instr.sureAddr, loadVar, run_isAgg hd, hf.1, run_sizeOf' hi, hf.2, this]
theorem run_storeCells {a : Addr} : ∀ (vs : List Value) (i : Nat) (w w' : World), putCells w a i vs = some w' → (storeCells a vs i).run P w = .ok () w'
  | [], i, w, w', h => by simp [putCells] at h; simp [storeCells, h]
  | v :: vs, i, w, w', h => by
    simp only [putCells] at h
    split at h
    · rename_i hc
      simp only [Bool.and_eq_true, Bool.not_eq_true'] at hc
      obtain ⟨⟨h1, h2⟩, h3⟩ := hc
      obtain ⟨u, hu⟩ := Option.isSome_iff_exists.1 h2
      simp only [storeCells, Sem.run_bind, run_store P w _ v _ h1, hu, h3, Bool.false_eq_true, if_false, Result.andThen_ok]
      exact run_storeCells vs (i + 1) _ _ h
    · cases h
theorem does_store {T : TypeId} {p v : Value} {i : TypeInfo} (hi : P.info? T = some i) (h : Store k w i.size p v) : ∃ w', (Instr.storeAt T p v).run P w = .ok () w' ∧ k undef w' := by
  obtain ⟨a, w', rfl, hs, hp, hk⟩ := h
  refine ⟨w', ?_, hk⟩
  simp [Instr.storeAt, Instr.sureAddr, storeVar, run_sizeOf' hi, hs, run_storeCells _ _ _ _ hp]
theorem does_alloc {T : TypeId} {z : Value} (hz : zeroOf P T = some z) (h : New k w z.cells T) : ∃ v w', (Instr.alloc T true (.tuple #[])).run P w = .ok v w' ∧ k v w' := by
  exact ⟨_, _, by simp [Instr.alloc, run_zero hz, newVar, newRow], h⟩
theorem does_box {T : TypeId} {x : Value} (h : New k w x.cells T) : ∃ v w', (Instr.box T x).run P w = .ok v w' ∧ k v w' := by
  exact ⟨_, _, by simp [Instr.box, newVar, newRow], h⟩
theorem placesL_run : ∀ (fs : List Field) (l : List (Nat × Nat)), placesL P fs = some l → ∀ w, (fs.mapM fun (f : Field) => do pure (f.offset, ← sizeOf f.type)).run P w = .ok l w
  | [], l, h, w => by simp [placesL] at h; simp [h]
  | f :: fs, l, h, w => by
    simp only [placesL] at h
    split at h
    · rename_i i l' hi hl
      simp at h; subst h
      have := placesL_run fs l' hl w
      simp only [List.mapM_cons, Sem.run_bind, run_sizeOf' hi, Result.andThen_ok, Sem.run_pure, this]
    · cases h
theorem does_build {T : TypeId} {fs : Array Field} {z : Value} {l : List (Nat × Nat)} {parts : List (Nat × Value)} (hu : P.underlying T = some (.struct fs)) (hz : zeroOf P T = some z) (hl : placesL P fs.toList = some l)
    (h : Build k w l.toArray z.cells parts) : ∃ v w', (Instr.build T parts.toArray).run P w = .ok v w' ∧ k v w' := by
  obtain ⟨cells, hf, hk⟩ := h
  refine ⟨_, w, ?_, hk⟩
  have hm : (fs.mapM fun (f : Field) => do pure (f.offset, ← sizeOf f.type)).run P w = .ok l.toArray w := by
    rw [Array.mapM_eq_mapM_toList, Sem.run_map, placesL_run _ _ hl]
    rfl
  simp only [Instr.build, Sem.run_bind, run_zero hz, Result.andThen_ok, run_underlying hu, hm, hf, Sem.run_pure]
theorem does_buildA {T e : TypeId} {n : Nat} {z : Value} {i : TypeInfo} {parts : List (Nat × Value)} (hu : P.underlying T = some (.array n e)) (hz : zeroOf P T = some z) (hi : P.info? e = some i)
    (h : BuildA k w i.size z.cells parts) : ∃ v w', (Instr.build T parts.toArray).run P w = .ok v w' ∧ k v w' := by
  obtain ⟨cells, hf, hk⟩ := h
  refine ⟨_, w, ?_, hk⟩
  simp only [Instr.build, Sem.run_bind, run_zero hz, Result.andThen_ok, run_underlying hu, run_sizeOf' hi, hf, Sem.run_pure]
theorem zeroRow_range (z : Array Value) : ∀ n : Nat, (Array.range (n * z.size)).map (fun i => z[i % z.size]!) = zeroRow n z.toList
  | 0 => by simp [zeroRow]
  | n + 1 => by
    have ih := zeroRow_range z n
    have e1 : zeroRow (n + 1) z.toList = zeroRow n z.toList ++ z := by
      unfold zeroRow
      rw [List.replicate_succ', List.flatten_append]
      simp
    rw [e1, ← ih]
    apply Array.ext
    · simp [Nat.add_mul]
    · intro i h1 h2
      simp only [Array.size_map, Array.size_range] at h1
      simp only [Array.getElem_map, Array.getElem_range, Array.getElem_append, Array.size_map, Array.size_range]
      split
      · rfl
      · rename_i hn
        have hz : 0 < z.size := by
          rcases Nat.eq_zero_or_pos z.size with h | h
          · rw [h] at h1; simp at h1
          · exact h
        have hi : i - n * z.size < z.size := by rw [Nat.add_mul] at h1; omega
        have : i % z.size = i - n * z.size := by
          rw [show i = i - n * z.size + n * z.size by omega, Nat.add_mul_mod_self_right, Nat.mod_eq_of_lt hi]
          omega
        rw [this, getElem!_pos z _ hi]
theorem does_buildS {T e : TypeId} {len : Nat} {z : Value} {i : TypeInfo} {parts : List (Nat × Value)} (hu : P.underlying T = some (.slice e)) (hi : P.info? e = some i) (hz : i.zero = some z) (hs : z.cells.size = i.size)
    (h : BuildS k w e len i.size (zeroRow len z.cells.toList) parts) : ∃ v w', (Instr.buildSlice T len parts.toArray).run P w = .ok v w' ∧ k v w' := by
  obtain ⟨hn, cells, hf, hk⟩ := h
  have hz' : zeroOf P e = some z := by simp [zeroOf, hi, hz]
  refine ⟨_, _, ?_, hk⟩
  have hrow := zeroRow_range z.cells len
  rw [hs] at hrow
  simp only [Instr.buildSlice, Sem.run_bind, run_underlying hu, Result.andThen_ok, run_sizeOf' hi]
  rw [if_neg (by omega)]
  by_cases h0 : len * i.size = 0
  · simp only [h0, if_true, Sem.run_bind, Sem.run_pure, Result.andThen_ok]
    have e0 : (Array.map (fun x => (#[] : Array Value)[x % (#[] : Array Value).size]!) (Array.range 0)) = #[] := by simp
    have e1 : zeroRow len z.cells.toList = #[] := by rw [← hrow, h0]; simp
    rw [e0, ← e1, hf]
    simp [newRow]
  · simp only [h0, if_false, Sem.run_bind, Sem.run_pure, Result.andThen_ok, run_zero hz', hs, hrow]
    simp [hf, newRow]
theorem intBin_run {op : BinOp} {T : TypeId} {x y v : Value} {a b : Operand} (h : intBin op x y = some v) : ((do eqGuard op T a b x y; binOp op T x y) : Sem Value).run P w = .ok v w := by
  cases x with
  | int j m =>
    cases y with
    | int i n =>
      rw [eqGuard_at_int]
      cases op <;> simp only [intBin] at h <;> (split at h <;> try cases h)
      any_goals (rename_i hn; simp [binOp, Op.shift, hn]; done)
      all_goals simp_all [binOp, Op.intArith, Op.intDiv, Op.intCmp, intBits_and, intBits_or, intBits_xor, intBits_andNot]
    | _ => simp [intBin] at h
  | _ => simp [intBin] at h
theorem equal_at {d : TypeDesc} {T : TypeId} {x y : Value} {r : Bool} (hu : P.underlying T = some d)
    (h : (match d, x, y with
      | .bool, .bool a, .bool b => a == b
      | .pointer _, .pointer none, .pointer b => b.isNone
      | .pointer _, .pointer (some _), .pointer none => false
      | .slice _, .slice none _ _, .slice b _ _ => b.isNone
      | .slice _, .slice (some _) _ _, .slice none _ _ => false
      | .map _ _, .map none, .map b => b.isNone
      | .map _ _, .map (some _), .map none => false
      | .func _ _ _, .nilFunc, .nilFunc => true
      | .func _ _ _, .nilFunc, .func _ _ _ => false
      | .func _ _ _, .func _ _ _, .nilFunc => false
      | .interface _, .nilIface, .nilIface => true
      | .interface _, .nilIface, .iface _ _ => false
      | .interface _, .iface _ _, .nilIface => false
      | _, _, _ => !r) = r) : (Op.equal T x y).run P w = .ok r w := by
  have e : Op.equal T x y = Op.equalIn (9999 + 1) T x y := rfl
  rw [e, Op.equalIn]
  simp only [Sem.run_bind, run_underlying hu, Result.andThen_ok]
  split at h <;> first | (subst h; rfl) | (exfalso; revert h; cases r <;> simp; done)
theorem EqV_run {neg c : Bool} {q : EqK} {d : TypeDesc} {T : TypeId} {x y : Value} {a b : Operand} (hc : c = (isC a || isC b)) (hu : P.underlying T = some d) (hq : eqKind d = some q) (h : EqV k w neg c q x y) :
    ∃ v w', ((do eqGuard (if neg then .neq else .eql) T a b x y; binOp (if neg then .neq else .eql) T x y) : Sem Value).run P w = .ok v w' ∧ k v w' := by
  obtain ⟨r, he, hk⟩ := h
  refine ⟨_, w, ?_, hk⟩
  have fin : eqGuard (if neg then .neq else .eql) T a b x y = pure () → (binOp (if neg then .neq else .eql) T x y = (if neg then (do pure (.bool (!(← Op.equal T x y)))) else (do pure (.bool (← Op.equal T x y))) : Sem Value)) → (Op.equal T x y).run P w = .ok r w →
      ((do eqGuard (if neg then .neq else .eql) T a b x y; binOp (if neg then .neq else .eql) T x y) : Sem Value).run P w = .ok (.bool (neg != r)) w := by
    intro h1 h2 h3
    rw [h1, h2]
    cases neg <;> simp [h3]
  cases d <;> simp only [eqKind] at hq <;> first | (cases hq; done) | (simp only [Option.some.injEq] at hq; subst hq)
  case bool =>
    simp only [eqV] at he; unfold eqBool at he; split at he <;> first | (cases he; done) | (simp only [Option.some.injEq] at he)
    exact fin (by cases neg <;> rfl) (by cases neg <;> rfl) (equal_at hu he)
  case string =>
    simp only [eqV] at he; unfold eqStr at he; split at he <;> first | (cases he; done) | (simp only [Option.some.injEq] at he)
    cases neg <;> simp [binOp, Op.stringOp, he, eqGuard_at_string]
  case pointer =>
    simp only [eqV] at he; unfold eqPtr at he; split at he <;> first | (cases he; done) | (simp only [Option.some.injEq] at he)
    all_goals exact fin (by cases neg <;> rfl) (by cases neg <;> rfl) (equal_at hu he)
  case slice =>
    simp only [eqV] at he; unfold eqSlice at he; split at he <;> first | (cases he; done) | (simp only [Option.some.injEq] at he)
    all_goals exact fin (by cases neg <;> rfl) (by cases neg <;> rfl) (equal_at hu he)
  case map =>
    simp only [eqV] at he; unfold eqMap at he; split at he <;> first | (cases he; done) | (simp only [Option.some.injEq] at he)
    all_goals exact fin (by cases neg <;> rfl) (by cases neg <;> rfl) (equal_at hu he)
  case func =>
    simp only [eqV] at he; unfold eqFunc at he; split at he <;> first | (cases he; done) | (simp only [Option.some.injEq] at he)
    all_goals exact fin (by cases neg <;> rfl) (by cases neg <;> rfl) (equal_at hu he)
  case interface =>
    simp only [eqV] at he; unfold eqIface at he; split at he <;> first | (cases he; done) | skip
    · split at he <;> first | (cases he; done) | skip
      rename_i hcc
      simp only [Option.some.injEq] at he
      refine fin ?_ (by cases neg <;> rfl) (equal_at hu he)
      rw [hc] at hcc
      cases a <;> cases b <;> first | (simp [isC] at hcc; done) | (cases neg <;> rfl)
    all_goals
      simp only [Option.some.injEq] at he
      exact fin (by cases neg <;> rfl) (by cases neg <;> rfl) (equal_at hu he)
end
end Go.Wx
end
section
namespace Go.Wx
open Go
section
variable {P : Program} {k : Value → World → Prop} {w : World}
theorem un_run {op : UnOp} {x : Value} (h : Un k w op x) : ∃ v w', (Op.unary op x).run P w = .ok v w' ∧ k v w' := by
  obtain ⟨v, he, hk⟩ := h
  refine ⟨v, w, ?_, hk⟩
  unfold unV at he
  split at he <;> first | (cases he; done) | skip
  all_goals
    simp only [Option.some.injEq] at he; subst he
    simp [Op.unary, Op.intArith, intBits_xor]
theorem conv_run {s d : TypeId} {ds : TypeDesc} {j : IntKind} {x : Value} (hs : P.underlying s = some ds) (hd : P.underlying d = some (.int j)) (h : ConvI k w j x) : ∃ v w', (convert s d x).run P w = .ok v w' ∧ k v w' := by
  obtain ⟨i, n, rfl, hk⟩ := h
  refine ⟨_, w, ?_, hk⟩
  simp [convert, run_underlying hs, run_underlying hd, Conv.intToInt]
theorem bnd_run {x : Value} {y m : Nat} {code : BoundsCode} (h : bnd x y = some m) : (Instr.sliceBound x y code).run P w = .ok m w := by
  unfold bnd at h
  split at h
  · split at h
    · rename_i hc
      simp only [Option.some.injEq] at h
      simp [Instr.sliceBound, asIntOf, hc, h]
    · cases h
  · cases h
theorem cut_run {T e : TypeId} {i : TypeInfo} {x : Value} {lo hi mx : Option Value} (hu : P.underlying T = some (.slice e)) (hi' : P.info? e = some i) (h : CutS k w i.size x lo hi mx) :
    ∃ v w', (Instr.sliceAt T x lo hi mx).run P w = .ok v w' ∧ k v w' := by
  obtain ⟨v, he, hk⟩ := h
  refine ⟨v, w, ?_, hk⟩
  unfold cutV at he
  split at he
  · rename_i a len cap
    simp only [Option.bind_eq_some_iff, Option.some.injEq] at he
    obtain ⟨m, hm, h', hh, l, hl, rfl⟩ := he
    cases mx <;> cases hi <;> cases lo <;> simp only [Option.some.injEq] at hm hh hl <;> first | (cases hh; done) | skip
    all_goals
      (try replace hm := fun code => bnd_run (P := P) (w := w) (code := code) hm)
      (try replace hh := fun code => bnd_run (P := P) (w := w) (code := code) hh)
      (try replace hl := fun code => bnd_run (P := P) (w := w) (code := code) hl)
      (try subst hm)
      (try subst hh)
      (try subst hl)
      simp only [Instr.sliceAt, Sem.run_bind, run_underlying hu, Result.andThen_ok, Instr.slice, Instr.sliceBounds, if_true, Sem.run_pure, run_sizeOf' hi', *]
  · cases he
theorem fieldAddr_run {T : TypeId} {fs : Array Field} {f : Nat} {fd : Field} {i : TypeInfo} {x : Value} (hu : P.underlying T = some (.struct fs)) (hf : fs[f]? = some fd) (hi : P.info? fd.type = some i) (hn : i.size ≠ 0)
    (h : PtrAdd k w fd.offset x) : ∃ v w', (Instr.fieldAt T x f).run P w = .ok v w' ∧ k v w' := by
  obtain ⟨a, rfl, hk⟩ := h
  refine ⟨_, w, ?_, hk⟩
  simp [Instr.fieldAt, run_underlying hu, hf, Instr.sureAddr, fieldPlace, run_sizeOf' hi, hn]
theorem field_run {T : TypeId} {fs : Array Field} {f : Nat} {fd : Field} {n : Option Nat} {x : Value} (hu : P.underlying T = some (.struct fs)) (hf : fs[f]? = some fd) (ha : aggN P fd.type = some n)
    (h : FieldV k w n fd.offset x) : ∃ v w', (Instr.field T x f).run P w = .ok v w' ∧ k v w' := by
  obtain ⟨v, he, hk⟩ := h
  refine ⟨v, w, ?_, hk⟩
  cases x <;> simp only [partV] at he <;> first | (cases he; done) | skip
  rename_i cs
  have := run_part (w := w) ha (cs := cs) (off := fd.offset) (v := v) (by simpa [partV] using he)
  simp [Instr.field, run_underlying hu, hf, asAgg, this]
theorem idxS_run {T e : TypeId} {j : TypeInfo} {x i : Value} (hu : P.underlying T = some (.slice e)) (hj : P.info? e = some j) (h : IdxS k w j.size x i) : ∃ v w', (Instr.indexAt T x i).run P w = .ok v w' ∧ k v w' := by
  obtain ⟨v, he, hk⟩ := h
  refine ⟨v, w, ?_, hk⟩
  unfold idxS at he
  split at he
  · split at he
    · rename_i hc
      simp only [Option.some.injEq] at he
      simp only [Instr.indexAt, Sem.run_bind, asIntOf, Sem.run_pure, Result.andThen_ok, run_underlying hu]
      rw [if_pos hc]
      simp [run_sizeOf' hj, he]
    · cases he
  · cases he
theorem idxA_run {T e : TypeId} {n : Nat} {j : TypeInfo} {x i : Value} (hu : P.underlying T = some (.array n e)) (hj : P.info? e = some j) (h : IdxA k w n j.size x i) : ∃ v w', (Instr.indexAt T x i).run P w = .ok v w' ∧ k v w' := by
  obtain ⟨v, he, hk⟩ := h
  refine ⟨v, w, ?_, hk⟩
  unfold idxA at he
  split at he
  · split at he
    · rename_i hc
      simp only [Option.some.injEq] at he
      simp only [Instr.indexAt, Sem.run_bind, asIntOf, Sem.run_pure, Result.andThen_ok, run_underlying hu, Instr.sureAddr]
      rw [if_pos hc]
      simp [run_sizeOf' hj, he]
    · cases he
  · cases he
theorem idxV_run {T e : TypeId} {n : Nat} {j : TypeInfo} {m : Option Nat} {x i : Value} (hu : P.underlying T = some (.array n e)) (hj : P.info? e = some j) (ha : aggN P e = some m) (h : IdxV k w n j.size m x i) : ∃ v w', (Instr.index T x i).run P w = .ok v w' ∧ k v w' := by
  obtain ⟨v, he, hk⟩ := h
  refine ⟨v, w, ?_, hk⟩
  unfold idxV at he
  split at he
  · split at he
    · rename_i cs _ ii hc
      have := run_part (w := w) ha he
      simp only [Instr.index, Sem.run_bind, asIntOf, Sem.run_pure, Result.andThen_ok, run_underlying hu]
      rw [if_pos hc]
      simp [run_sizeOf' hj, this]
    · cases he
  · cases he
theorem checkKey_int {T : TypeId} {j : IntKind} {key : Value} {b : Bool} (hu : P.underlying T = some (.int j)) : (Instr.checkKey b 10000 T key).run P w = .ok () w := by
  rw [show (10000 : Nat) = 9999 + 1 from rfl, Instr.checkKey]
  simp only [Sem.run_bind, run_underlying hu, Result.andThen_ok, Sem.run_pure]
theorem findKey_int {T : TypeId} {key : Value} {es : List MapEntry} {r : Option (Nat × Value)} (hu : P.underlying T = some (.int .i64)) (h : keyI key es = some r) : (Instr.findKey T key es).run P w = .ok r w := by
  unfold keyI at h
  simp [Instr.findKey, run_underlying hu, h]
theorem run_getObj {r : Nat} {arr : Array MapEntry} {clock : Nat} (h : w.heap[r]? = some (.map arr clock)) : (getObj r).run P w = .ok (.map arr clock) w := by
  simp only [getObj, Sem.run, h]
theorem run_setObj {r : Nat} {arr : Array MapEntry} {clock : Nat} {o : Obj} (h : w.heap[r]? = some (.map arr clock)) : (setObj r o).run P w = .ok () (World.setObj w r o) := by
  simp only [setObj, Sem.run, h, World.setObj]
theorem look_run {T kt e : TypeId} {z m key : Value} {ok : Bool} (hu : P.underlying T = some (.map kt e)) (hk' : P.underlying kt = some (.int .i64)) (hz : zeroOf P e = some z) (h : LookI k w z ok m key) :
    ∃ v w', (Instr.lookup T m key ok).run P w = .ok v w' ∧ k v w' := by
  obtain ⟨es, r, hm, hr, hk⟩ := h
  refine ⟨_, w, ?_, hk⟩
  unfold mapIs at hm
  split at hm
  · subst hm
    have hf := fun w => findKey_int (w := w) hk' (es := []) hr
    have hc := fun w b => checkKey_int (w := w) (b := b) (key := key) hk'
    have hz0 := fun w => run_zero (w := w) hz
    cases r <;> simp only [Instr.lookup, Sem.run_bind, run_underlying hu, Result.andThen_ok, Sem.run_pure, hc, hf, hz0] <;> cases ok <;> simp
  · obtain ⟨arr, clock, hh, rfl⟩ := hm
    have hf := findKey_int (w := w) hk' (es := arr.toList) hr
    have hc := fun b => checkKey_int (w := w) (b := b) (key := key) hk'
    have hz0 := run_zero (w := w) hz
    cases r <;> simp only [Instr.lookup, Sem.run_bind, run_underlying hu, Result.andThen_ok, Sem.run_pure, run_getObj hh, hc, hf, hz0] <;> cases ok <;> simp
  · exact hm.elim
theorem findNow_at {key : Value} : ∀ {es : List MapEntry} {n i : Nat} {v : Value}, Instr.findNow (.int .i64) key es n = some (some (i, v)) → n ≤ i ∧ ∃ e, es[i - n]? = some e ∧ e.val = v ∧ ∃ j x, key = .int j x ∧ e.key = .int j x
  | [], n, i, v, h => by simp [Instr.findNow] at h
  | e :: es, n, i, v, h => by
    simp only [Instr.findNow] at h
    split at h
    · rename_i hs
      simp only [Option.some.injEq, Prod.mk.injEq] at h
      obtain ⟨rfl, rfl⟩ := h
      refine ⟨Nat.le_refl _, e, by simp, rfl, ?_⟩
      unfold Instr.sameNow at hs
      split at hs
      · rename_i j a j' a' _ he
        split at hs
        · rename_i hj
          simp only [Option.some.injEq, beq_iff_eq] at hs
          exact ⟨_, _, rfl, by rw [he, ← hj, ← hs]⟩
        · cases hs
      · rename_i hx _; cases hx
      · rename_i hx _; cases hx
      · cases hs
    · obtain ⟨h1, e', h2, h3⟩ := findNow_at h
      refine ⟨by omega, e', ?_, h3⟩
      rw [show i - n = (i - (n + 1)) + 1 by omega, List.getElem?_cons_succ]
      exact h2
    · cases h
theorem sameBits_int {n : Nat} {j : IntKind} {x : Int} : Instr.sameBits n (.int j x) (.int j x) = true := by
  cases n <;> simp [Instr.sameBits]
theorem mapPut_run {T kt e : TypeId} {m key v : Value} (hu : P.underlying T = some (.map kt e)) (hk' : P.underlying kt = some (.int .i64)) (h : MapPut k w m key v) :
    ∃ w', (Instr.mapUpdate T m key v).run P w = .ok () w' ∧ k undef w' := by
  obtain ⟨b, arr, clock, r, rfl, hh, hr, hk⟩ := h
  refine ⟨_, ?_, hk⟩
  simp only [Instr.mapUpdate, Sem.run_bind, run_underlying hu, Result.andThen_ok, run_getObj hh, checkKey_int hk', findKey_int hk' hr]
  cases r with
  | none => simp only [run_setObj hh]
  | some p =>
    obtain ⟨i, v'⟩ := p
    obtain ⟨_, e', he, _, j, x, rfl, hkey⟩ := findNow_at hr
    have he' : arr[i]? = some e' := by simpa using he
    have hks : Instr.keyThatStays (((arr[i]?).map (·.key)).getD (.int j x)) (.int j x) = pure (.int j x) := by
      simp [he', hkey, Instr.keyThatStays, sameBits_int]
    simp only [Sem.run_bind, hks, Sem.run_pure, Result.andThen_ok, run_setObj hh]
theorem mapDel_run {T kt e : TypeId} {m key : Value} {ty : TypeId} (hu : P.underlying T = some (.map kt e)) (hk' : P.underlying kt = some (.int .i64)) (h : MapDel k w m key) :
    ∃ v w', (Builtin.delete_ #[T] ty #[m, key]).run P w = .ok v w' ∧ k v w' := by
  rcases h with ⟨rfl, hk⟩ | ⟨b, arr, clock, r, rfl, hh, hr, hk⟩
  · refine ⟨_, _, ?_, hk⟩
    simp [Builtin.delete_, run_underlying hu, checkKey_int hk']
  · refine ⟨_, _, ?_, hk⟩
    simp only [Builtin.delete_, List.getElem?_toArray, List.getElem?_cons_zero, List.getElem?_cons_succ, Sem.run_bind, run_underlying hu, Result.andThen_ok, run_getObj hh, checkKey_int hk', findKey_int hk' hr]
    cases r with
    | none => simp only [Sem.run_bind, run_setObj hh, Result.andThen_ok, Sem.run_pure]
    | some p => simp only [Sem.run_bind, run_setObj hh, Result.andThen_ok, Sem.run_pure]
theorem makeS_run {T e : TypeId} {i : TypeInfo} {z l c : Value} (hu : P.underlying T = some (.slice e)) (hi : P.info? e = some i) (hz : i.zero = some z) (h : MakeS k w e i.size i.bytes z.cells l c) :
    ∃ v w', (Instr.makeSlice T l c).run P w = .ok v w' ∧ k v w' := by
  obtain ⟨j, n, i', m, rfl, rfl, h0, hnm, hm, hb, hs, hk⟩ := h
  have hrow := zeroRow_range z.cells m.toNat
  rw [hs] at hrow
  refine ⟨_, _, ?_, hk⟩
  have hz' : zeroOf P e = some z := by simp [zeroOf, hi, hz]
  have e1 : IntKind.i64.wrap n = n := by simp [IntKind.wrap, IntKind.signed, IntKind.bits]; omega
  have e2 : IntKind.i64.wrap m = m := by simp [IntKind.wrap, IntKind.signed, IntKind.bits]; omega
  simp only [Instr.makeSlice, Sem.run_bind, run_underlying hu, Result.andThen_ok, asInt, asIntOf, Sem.run_pure, run_typeInfo hi, e1, e2]
  have hcond : ((decide (m < 0) || decide ((i.bytes : Int) * m > 2 ^ 48)) || decide (n < 0) || decide (n > m)) = false := by
    simp; omega
  simp only [hcond, Bool.false_eq_true, if_false, Sem.run_bind, run_askRoom, Result.andThen_ok, run_sizeOf' hi]
  by_cases hz0 : m.toNat * i.size = 0
  · have e0 : ∀ (x : Array Value), (Array.map (fun y => x[y % x.size]!) (Array.range 0)) = #[] := by simp
    have e1 : zeroRow m.toNat z.cells.toList = #[] := by rw [← hrow, hz0]; simp
    simp only [hz0, if_true, Sem.run_pure, Result.andThen_ok, newRow, Sem.run_bind, run_newObj, e0, e1]
    rfl
  · simp [hz0, run_zero hz', newRow, hs, hrow]
end
end Go.Wx
end
section
namespace Go.Wx
open Go
section
variable {P : Program} {k : Value → World → Prop} {w : World}
theorem cellsOf_run {a : Option Addr} {len cap n size : Nat} {cs : List Value} (h : cellsOf w (.slice a len cap) (n * size) cs ∨ (a = none ∧ cs = [])) : (Builtin.firstCells size n (.slice a len cap)).run P w = .ok cs.toArray w := by
  cases a with
  | none =>
    have : cs = [] := by
      rcases h with h | ⟨_, h⟩
      · exact h.2
      · exact h
    simp [Builtin.firstCells, this]
  | some a =>
    rcases h with ⟨hl, h⟩ | ⟨h, _⟩
    · have := run_loadCells_list (P := P) (w := w) a cs h
      rw [hl] at this
      simp [Builtin.firstCells, this]
    · cases h
theorem cellsOf_or {a : Option Addr} {len cap n : Nat} {cs : List Value} (h1 : a = none → cs = []) (h2 : a ≠ none → cellsOf w (.slice a len cap) n cs) : cellsOf w (.slice a len cap) n cs ∨ (a = none ∧ cs = []) := by
  cases a with
  | none => exact .inr ⟨rfl, h1 rfl⟩
  | some a => exact .inl (h2 (by simp))
theorem append_run {T T' e e' ty : TypeId} {i : TypeInfo} {z s x : Value} (hu : P.underlying T = some (.slice e)) (hu' : P.underlying T' = some (.slice e')) (hi : P.info? e = some i) (hz : i.zero = some z) (h : Append k w e i.size i.bytes z.cells s x) :
    ∃ v w', (Builtin.append_ #[T, T'] ty #[s, x]).run P w = .ok v w' ∧ k v w' := by
  obtain ⟨base, sLen, sCap, xb, n, xc, rfl, rfl, h⟩ := h
  have hz' : zeroOf P e = some z := by simp [zeroOf, hi, hz]
  rcases h with ⟨hfit, new, w', hn1, hn2, hp, hk⟩ | ⟨hgrow, hmax, hcap, old, new, ho1, ho2, hn1, hn2, hk⟩
  · refine ⟨_, _, ?_, hk⟩
    have hnew := cellsOf_run (P := P) (size := i.size) (cellsOf_or hn1 hn2)
    simp only [Builtin.append_, List.getElem?_toArray, List.getElem?_cons_zero, List.getElem?_cons_succ, Sem.run_bind, run_underlying hu, run_underlying hu', Result.andThen_ok, run_sizeOf' hi, Sem.run_pure, Builtin.lenOf, Bool.false_eq_true, if_false, Bool.not_false, if_true]
    rw [if_pos hfit]
    cases base with
    | none => simp only at hp; subst hp; simp only [Sem.run_bind, hnew, Result.andThen_ok, Sem.run_pure]
    | some a => simp only at hp; simp only [Sem.run_bind, hnew, Result.andThen_ok, Sem.run_pure, run_storeCells _ _ _ _ hp]
  · refine ⟨_, _, ?_, hk (IntKind.i64.max.toNat.max 0 |> fun _ => (Question.appendCap (sLen + n) sCap e).cut (w.tape w.drawn (Question.appendCap (sLen + n) sCap e))) (by simp only [Question.cut]; omega)⟩
    have hw : ∀ (a : Option Addr) (len cap n : Nat) (cs : List Value), cellsOf w (.slice a len cap) n cs → cellsOf { w with drawn := w.drawn + 1 } (.slice a len cap) n cs := by
      intro a len cap n cs h
      cases a <;> exact h
    have hnew := cellsOf_run (P := P) (w := { w with drawn := w.drawn + 1 }) (size := i.size) (cellsOf_or hn1 fun h => hw _ _ _ _ _ (hn2 h))
    have hold := cellsOf_run (P := P) (w := { w with drawn := w.drawn + 1 }) (size := i.size) (cellsOf_or ho1 fun h => hw _ _ _ _ _ (ho2 h))
    simp only [Builtin.append_, List.getElem?_toArray, List.getElem?_cons_zero, List.getElem?_cons_succ, Sem.run_bind, run_underlying hu, run_underlying hu', Result.andThen_ok, run_sizeOf' hi, Sem.run_pure, Builtin.lenOf, Bool.false_eq_true, if_false, Bool.not_false, if_true]
    rw [if_neg (by omega)]
    simp only [Sem.run_bind, run_typeInfo hi, Result.andThen_ok, Bool.false_or, Bool.or_false]
    have hq : (Question.appendCap (sLen + n) sCap e).forced = false := rfl
    have e1 : ¬ (((sLen + n : Nat) : Int) > IntKind.i64.max ∧ (false = true ∨ (decide (i.bytes = 0)) = true)) := fun h => by omega
    rw [if_neg (by intro hh; exact absurd hh.1 (by omega))]
    simp only [Sem.run_bind, run_typeInfo hi, Result.andThen_ok]
    rw [if_neg (by omega)]
    simp only [Sem.run_bind, run_choose, hq, run_typeInfo hi, Bool.false_eq_true, if_false, Result.andThen_ok, run_askRoom, hold, hnew, run_zero hz', newRow, run_newObj, Sem.run_pure, Builtin.zeroCells, zeroRow_range]
    rfl
theorem appendZ_run {T T' e ty : TypeId} {q : IntKind} {i : TypeInfo} {z s x : Value} (hu : P.underlying T = some (.slice e)) (hu' : P.underlying T' = some (.int q)) (hi : P.info? e = some i) (hz : i.zero = some z) (h : AppendZ k w e i.size i.bytes z.cells s x) :
    ∃ v w', (Builtin.append_ #[T, T'] ty #[s, x]).run P w = .ok v w' ∧ k v w' := by
  obtain ⟨base, sLen, sCap, j, m, rfl, rfl, hm, hb, hs, h⟩ := h
  have hz' : zeroOf P e = some z := by simp [zeroOf, hi, hz]
  have e1 : IntKind.i64.wrap (m : Int) = m := by simp [IntKind.wrap, IntKind.signed, IntKind.bits]; omega
  have hzr : ∀ w, ((if m * i.size = 0 then pure #[] else do pure (Builtin.zeroCells (← zeroValue e).cells m) : Sem (Array Value))).run P w = .ok (zeroRow m z.cells.toList) w := by
    intro w
    have hrow := zeroRow_range z.cells m
    by_cases h0 : m * i.size = 0
    · rw [if_pos h0, ← hrow, hs, h0]; simp
    · rw [if_neg h0]; simp [run_zero hz', Builtin.zeroCells, hrow]
  have hn : ¬ ((m : Int) < 0) := by omega
  have hnb : ¬ ((m : Int) * (i.bytes : Int) > 2 ^ 48) := by
    have : ((m * i.bytes : Nat) : Int) ≤ 2 ^ 48 := by exact_mod_cast hb
    push_cast at this
    omega
  rcases h with ⟨hfit, w', hp, hk⟩ | ⟨hgrow, hmax, hcap, old, ho1, ho2, hk⟩
  · refine ⟨_, _, ?_, hk⟩
    simp only [Builtin.append_, List.getElem?_toArray, List.getElem?_cons_zero, List.getElem?_cons_succ, Sem.run_bind, run_underlying hu, run_underlying hu', Result.andThen_ok, run_sizeOf' hi, Sem.run_pure, if_true, Bool.not_true, Bool.false_eq_true, if_false, asInt, asIntOf, e1]
    rw [if_neg hn]
    simp only [Sem.run_bind, run_typeInfo hi, Result.andThen_ok]
    rw [if_neg hnb]
    simp only [Sem.run_bind, Sem.run_pure, Result.andThen_ok, Int.toNat_natCast]
    rw [if_pos hfit]
    cases base with
    | none => simp only at hp; subst hp; simp only [Sem.run_bind, hzr, Result.andThen_ok, Sem.run_pure]
    | some a => simp only at hp; simp only [Sem.run_bind, hzr, Result.andThen_ok, Sem.run_pure, run_storeCells _ _ _ _ hp]
  · refine ⟨_, _, ?_, hk (IntKind.i64.max.toNat.max 0 |> fun _ => (Question.appendCap (sLen + m) sCap e).cut (w.tape w.drawn (Question.appendCap (sLen + m) sCap e))) (by simp only [Question.cut]; omega)⟩
    have hw : ∀ (a : Option Addr) (len cap n : Nat) (cs : List Value), cellsOf w (.slice a len cap) n cs → cellsOf { w with drawn := w.drawn + 1 } (.slice a len cap) n cs := by
      intro a len cap n cs h
      cases a <;> exact h
    have hold := cellsOf_run (P := P) (w := { w with drawn := w.drawn + 1 }) (size := i.size) (cellsOf_or ho1 fun h => hw _ _ _ _ _ (ho2 h))
    simp only [Builtin.append_, List.getElem?_toArray, List.getElem?_cons_zero, List.getElem?_cons_succ, Sem.run_bind, run_underlying hu, run_underlying hu', Result.andThen_ok, run_sizeOf' hi, Sem.run_pure, if_true, Bool.not_true, Bool.false_eq_true, if_false, asInt, asIntOf, e1]
    rw [if_neg hn]
    simp only [Sem.run_bind, run_typeInfo hi, Result.andThen_ok]
    rw [if_neg hnb]
    simp only [Sem.run_bind, Sem.run_pure, Result.andThen_ok, Int.toNat_natCast]
    rw [if_neg (by omega)]
    simp only [Sem.run_bind, run_typeInfo hi, Result.andThen_ok]
    have hq : (Question.appendCap (sLen + m) sCap e).forced = false := rfl
    rw [if_neg (by intro hh; exact absurd hh.1 (by omega))]
    simp only [Sem.run_bind, run_typeInfo hi, Result.andThen_ok]
    rw [if_neg (by omega)]
    simp only [Sem.run_bind, run_choose, hq, run_typeInfo hi, Bool.false_eq_true, if_false, Result.andThen_ok, run_askRoom, hold, hzr, run_zero hz', newRow, run_newObj, Sem.run_pure]
    simp only [Builtin.zeroCells, zeroRow_range]
    rfl
theorem clear_run {T e ty : TypeId} {z x : Value} (hu : P.underlying T = some (.slice e)) (hz : zeroOf P e = some z) (h : ClearS k w z.cells x) :
    ∃ v w', (Builtin.clear_ #[T] ty #[x]).run P w = .ok v w' ∧ k v w' := by
  obtain ⟨base, n, c, w', rfl, hp, hk⟩ := h
  refine ⟨_, _, ?_, hk⟩
  have hrow := zeroRow_range z.cells n
  have hzc : Builtin.zeroCells z.cells n = zeroRow n z.cells.toList := hrow
  cases base with
  | none => simp only at hp; subst hp; simp [Builtin.clear_, run_underlying hu]
  | some a =>
    simp only at hp
    cases n with
    | zero =>
      have : zeroRow 0 z.cells.toList = #[] := by rw [← hrow]; simp
      rw [this] at hp
      simp [putCells] at hp
      subst hp
      simp [Builtin.clear_, run_underlying hu]
    | succ n =>
      simp only [Builtin.clear_, List.getElem?_toArray, List.getElem?_cons_zero, Sem.run_bind, run_underlying hu, Result.andThen_ok, run_zero hz, hzc, run_storeCells _ _ _ _ hp, Sem.run_pure]
theorem copy_run {T e ty : TypeId} {i : TypeInfo} {d s : Value} {ts : List TypeId} (hu : P.underlying T = some (.slice e)) (hi : P.info? e = some i) (h : CopyS k w i.size d s) :
    ∃ v w', (Builtin.copy_ (T :: ts).toArray ty #[d, s]).run P w = .ok v w' ∧ k v w' := by
  obtain ⟨base, dl, dc, sb, sl, sc, new, w', rfl, rfl, h1, h2, hp, hk⟩ := h
  refine ⟨_, _, ?_, hk⟩
  have hnew := cellsOf_run (P := P) (size := i.size) (cellsOf_or h1 h2)
  simp only [Builtin.copy_, List.getElem?_toArray, List.getElem?_cons_zero, List.getElem?_cons_succ, Sem.run_bind, run_underlying hu, Result.andThen_ok, run_sizeOf' hi, Sem.run_pure, Builtin.lenOf]
  have hm : Nat.min sl dl = min sl dl := rfl
  simp only [hm, hnew, Result.andThen_ok]
  cases base with
  | none => simp only at hp; subst hp; simp [goInt]
  | some a => simp only at hp; simp [goInt, run_storeCells _ _ _ _ hp]
theorem callFunc_run {f : FuncId} {args : Array Value} (h : mayEnter P f = true) : (callFunc f args).run P w = .ok (.enter f args) w := by
  unfold mayEnter at h
  split at h
  · rename_i fn hf
    simp only [Bool.and_eq_true, Bool.not_eq_true'] at h
    obtain ⟨b, hb⟩ := Option.isSome_iff_exists.1 h.1
    have h2 : ¬ fn.name = "runtime.NumGoroutine" := by simpa using h.2
    simp [callFunc, hf, h2, hb]
  · cases h
theorem two_args {args : Array Operand} {x y : Operand} (h1 : args[0]? = some x) (h2 : args[1]? = some y) (h3 : args[2]? = none) : args.toList = [x, y] := by
  obtain ⟨l⟩ := args
  match l with
  | [] => simp at h1
  | [a] => simp at h2
  | [a, b] => simp at h1 h2; simp [h1, h2]
  | a :: b :: c :: r => simp at h3
theorem call_does {c : Call} {ty : TypeId} {ρ : Env} (h : callW P c ty ρ k w) : Does P (do let d ← resolve ρ.ev c ty; invoke d.target d.args) k w := by
  obtain ⟨callee, args, argTypes⟩ := c
  have hv : ∀ {s : Sem Value}, (∃ v w', s.run P w = .ok v w' ∧ k v w') → ∀ {b : Builtin}, (∀ cs, builtin b argTypes ty cs (args.map ρ.ev) = (do pure (Next.value (← s)))) →
      Does P (do let d ← resolve ρ.ev { callee := .builtin b, args, argTypes } ty; invoke d.target d.args) k w := by
    intro s hs b hb
    have := does_v hs
    simp only [resolve, invoke, pure_bind, hb]
    exact this
  unfold callW at h
  dsimp only at h
  split at h
  · rename_i f
    have e : (do let d ← resolve ρ.ev { callee := .value (.func f), args, argTypes } ty; invoke d.target d.args) = callFunc f (args.toList.map ρ.ev).toArray := by
      rw [show (args.toList.map ρ.ev).toArray = args.map ρ.ev by rw [← Array.toList_map, Array.toArray_toList]]
      simp [resolve, Deferred.ofValue, Env.ev, invoke]
    rw [e]
    cases hm : mayEnter P f with
    | true => simp only [hm, cond_true] at h; simpa [Does, callFunc_run hm] using h
    | false => simpa [hm] using h
  · obtain ⟨f, first, cap, hf, hm, hr⟩ := h
    have e : (args.toList.map ρ.ev).toArray = args.map ρ.ev := by rw [← Array.toList_map, Array.toArray_toList]
    rw [e] at hr
    simpa [Does, resolve, hf, Deferred.ofValue, invoke, callFunc_run hm, Array.append_assoc] using hr
  · split at h <;> rename_i h1 h2 <;> first | exact h.elim | skip
    all_goals
      obtain ⟨T, hT, hu⟩ := Option.bind_eq_some_iff.1 h1
      refine hv (s := Builtin.len_ argTypes ty (args.map ρ.ev)) ?_ (fun _ => rfl)
    · obtain ⟨v, he, hk⟩ := h
      refine ⟨v, w, ?_, hk⟩
      unfold lenV at he
      split at he <;> (try simp only [Option.some.injEq] at he)
      · rename_i hx; subst he; simp [Builtin.len_, hT, h2, hx, run_underlying hu, goInt]
      · cases he
    · obtain ⟨v, he, hk⟩ := h
      refine ⟨v, w, ?_, hk⟩
      unfold lenStrV at he
      split at he <;> (try simp only [Option.some.injEq] at he)
      · rename_i hx; subst he; simp [Builtin.len_, hT, h2, hx, run_underlying hu, goInt]
      · cases he
    · obtain ⟨es, hm, hk⟩ := h
      refine ⟨_, w, ?_, hk⟩
      unfold mapIs at hm
      split at hm
      · rename_i hx; subst hm; simp [Builtin.len_, hT, h2, hx, run_underlying hu, goInt]
      · rename_i hx; obtain ⟨arr, clock, hh, rfl⟩ := hm; simp [Builtin.len_, hT, h2, hx, run_underlying hu, goInt, run_getObj hh]
      · exact hm.elim
    · refine ⟨_, w, ?_, h⟩
      simp [Builtin.len_, hT, h2, run_underlying hu, goInt]
  · split at h <;> rename_i h1 h2 <;> first | exact h.elim | skip
    obtain ⟨T, hT, hu⟩ := Option.bind_eq_some_iff.1 h1
    refine hv (s := Builtin.cap_ argTypes ty (args.map ρ.ev)) ?_ (fun _ => rfl)
    obtain ⟨v, he, hk⟩ := h
    refine ⟨v, w, ?_, hk⟩
    unfold capV at he
    split at he <;> (try simp only [Option.some.injEq] at he)
    · rename_i hx; subst he; simp [Builtin.cap_, hT, h2, hx, run_underlying hu, goInt]
    · cases he
  · split at h <;> first | exact h.elim | skip
    rename_i x y h1 h2 h3
    refine hv (s := Builtin.min_ argTypes ty (args.map ρ.ev)) ?_ (fun _ => rfl)
    obtain ⟨v, he, hk⟩ := h
    refine ⟨v, w, ?_, hk⟩
    have ha : args.toList = [x, y] := two_args h1 h2 h3
    unfold extV at he
    split at he <;> (try simp only [Option.some.injEq, Bool.false_eq_true, if_false] at he)
    · rename_i hx hy
      subst he
      simp [Builtin.min_, ha, hx, hy, Builtin.min2]
    · cases he
  · split at h <;> first | exact h.elim | skip
    rename_i x y h1 h2 h3
    refine hv (s := Builtin.max_ argTypes ty (args.map ρ.ev)) ?_ (fun _ => rfl)
    obtain ⟨v, he, hk⟩ := h
    refine ⟨v, w, ?_, hk⟩
    have ha : args.toList = [x, y] := two_args h1 h2 h3
    unfold extV at he
    split at he <;> (try simp only [Option.some.injEq, if_true] at he)
    · rename_i hx hy
      subst he
      simp [Builtin.max_, ha, hx, hy, Builtin.max2]
    · cases he
  · split at h <;> first | exact h.elim | skip
    rename_i e e' s x h1 h2 h3 h4
    split at h <;> first | exact h.elim | skip
    rename_i i hi
    split at h <;> first | exact h.elim | skip
    rename_i z hz
    obtain ⟨T, hT, hu⟩ := Option.bind_eq_some_iff.1 h1
    obtain ⟨T', hT', hu'⟩ := Option.bind_eq_some_iff.1 h2
    refine hv (s := Builtin.append_ argTypes ty (args.map ρ.ev)) ?_ (fun _ => rfl)
    have := append_run (ty := ty) hu hu' hi hz h
    have e1 : Builtin.append_ argTypes ty (args.map ρ.ev) = Builtin.append_ #[T, T'] ty #[ρ.ev s, ρ.ev x] := by
      simp [Builtin.append_, hT, hT', h3, h4]
    rw [e1]; exact this
    rename_i e q s x h1 h2 h3 h4
    split at h <;> first | exact h.elim | skip
    rename_i i hi
    split at h <;> first | exact h.elim | skip
    rename_i z hz
    obtain ⟨T, hT, hu⟩ := Option.bind_eq_some_iff.1 h1
    obtain ⟨T', hT', hu'⟩ := Option.bind_eq_some_iff.1 h2
    refine hv (s := Builtin.append_ argTypes ty (args.map ρ.ev)) ?_ (fun _ => rfl)
    have := appendZ_run (ty := ty) hu hu' hi hz h
    have e1 : Builtin.append_ argTypes ty (args.map ρ.ev) = Builtin.append_ #[T, T'] ty #[ρ.ev s, ρ.ev x] := by
      simp [Builtin.append_, hT, hT', h3, h4]
    rw [e1]; exact this
  · split at h <;> first | exact h.elim | skip
    rename_i e x h1 h3
    split at h <;> first | exact h.elim | skip
    rename_i z hz
    obtain ⟨T, hT, hu⟩ := Option.bind_eq_some_iff.1 h1
    refine hv (s := Builtin.clear_ argTypes ty (args.map ρ.ev)) ?_ (fun _ => rfl)
    have := clear_run (ty := ty) hu hz h
    have e1 : Builtin.clear_ argTypes ty (args.map ρ.ev) = Builtin.clear_ #[T] ty #[ρ.ev x] := by
      simp [Builtin.clear_, hT, h3]
    rw [e1]; exact this
  · split at h <;> first | exact h.elim | skip
    rename_i e d s h1 h3 h4
    split at h <;> first | exact h.elim | skip
    rename_i i hi
    obtain ⟨T, hT, hu⟩ := Option.bind_eq_some_iff.1 h1
    refine hv (s := Builtin.copy_ argTypes ty (args.map ρ.ev)) ?_ (fun _ => rfl)
    have := copy_run (ty := ty) (ts := []) hu hi h
    have e1 : Builtin.copy_ argTypes ty (args.map ρ.ev) = Builtin.copy_ #[T] ty #[ρ.ev d, ρ.ev s] := by
      simp [Builtin.copy_, hT, h3, h4]
    rw [e1]; exact this
  · split at h <;> first | exact h.elim | skip
    rename_i kt e m key h1 h3 h4
    split at h <;> first | exact h.elim | skip
    rename_i hkt
    obtain ⟨T, hT, hu⟩ := Option.bind_eq_some_iff.1 h1
    refine hv (s := Builtin.delete_ argTypes ty (args.map ρ.ev)) ?_ (fun _ => rfl)
    have := mapDel_run (ty := ty) hu hkt h
    have e1 : Builtin.delete_ argTypes ty (args.map ρ.ev) = Builtin.delete_ #[T] ty #[ρ.ev m, ρ.ev key] := by
      simp [Builtin.delete_, hT, h3, h4]
    rw [e1]; exact this
  · rename_i b _ _ _ _ _ _ _
    have e1 : (args.toList.map ρ.ev).toArray = args.map ρ.ev := by rw [← Array.toList_map, Array.toArray_toList]
    have e2 : (args.toList.map isC).toArray = args.map isC := by rw [← Array.toList_map, Array.toArray_toList]
    have e3 : (args.map fun | .const _ => true | _ => false) = args.map isC := by
      congr 1
    rw [e1, e2] at h
    simp only [resolve, pure_bind, invoke]
    exact h
  · rename_i r name
    have e1 : (args.toList.map ρ.ev).toArray = args.map ρ.ev := by rw [← Array.toList_map, Array.toArray_toList]
    rw [e1] at h
    simp only [resolve, pure_bind, invoke]
    generalize args.map ρ.ev = l at h
    obtain ⟨l⟩ := l
    have e2 : ((#[ρ.ev r] : Array Value) ++ ⟨l⟩) = ⟨ρ.ev r :: l⟩ := by simp
    have e3 : (⟨ρ.ev r :: l⟩ : Array Value).extract 1 (⟨ρ.ev r :: l⟩ : Array Value).size = ⟨l⟩ := by simp
    rw [e2]
    simp only [List.getElem?_toArray, List.getElem?_cons_zero]
    rw [e3]
    exact h
theorem opW_does {o : Oper} {ρ : Env} (h : opW P o ρ k w) : Does P (execOp ρ.ev o) k w := by
  obtain ⟨dst, op, type, pos, after, guard⟩ := o
  cases op <;> simp only [opW] at h <;> simp only [execOp] <;> first | exact h.elim | skip
  case move x => exact does_p h
  case assign x => exact does_p h
  case pick c a b =>
    obtain ⟨t, ht, hk⟩ := h
    simp [Does, ht, asBool, hk]
  case alloc T =>
    split at h <;> first | exact h.elim | skip
    rename_i z hz
    exact does_v (does_alloc hz h)
  case box T x => exact does_v (does_box h)
  case build T parts =>
    have hp : (parts.map fun (x : Nat × Operand) => (x.1, ρ.ev x.2)) = (parts.toList.map fun (x : Nat × Operand) => (x.1, ρ.ev x.2)).toArray := by rw [← Array.toList_map, Array.toArray_toList]
    split at h <;> first | exact h.elim | skip
    · rename_i fs z hu hz
      split at h <;> first | exact h.elim | skip
      rename_i l hl
      have := does_v (does_build hu hz hl h)
      rw [← hp] at this
      exact this
    · rename_i n e z hu hz
      split at h <;> first | exact h.elim | skip
      rename_i i hi
      have := does_v (does_buildA hu hz hi h)
      rw [← hp] at this
      exact this
  case buildSlice T len parts =>
    have hp : (parts.map fun (x : Nat × Operand) => (x.1, ρ.ev x.2)) = (parts.toList.map fun (x : Nat × Operand) => (x.1, ρ.ev x.2)).toArray := by rw [← Array.toList_map, Array.toArray_toList]
    split at h <;> first | exact h.elim | skip
    rename_i e hu
    split at h <;> first | exact h.elim | skip
    rename_i i hi
    split at h <;> first | exact h.elim | skip
    rename_i z hz
    cases hb : Nat.beq z.cells.size i.size with
    | false => simp [hb] at h
    | true =>
      rw [hb] at h
      have := does_v (does_buildS hu hi hz (Nat.eq_of_beq_eq_true hb) h)
      rw [← hp] at this
      exact this
  case load T a =>
    split at h <;> first | exact h.elim | skip
    · rename_i n ha; exact does_v (does_loadN ha h)
    · rename_i ha; exact does_v (does_load1 ha h)
  case store T a x =>
    split at h <;> first | exact h.elim | skip
    rename_i i hi
    exact does_u (does_store hi h)
  case nilCheck x =>
    obtain ⟨hn, hk⟩ := h
    generalize ρ.ev x = v at hn hk
    unfold nonNil at hn
    split at hn <;> first | (cases hn; done) | skip
    rename_i h1 h2 h3 h4
    split
    · exact absurd rfl h1
    · exact absurd rfl h2
    · exact absurd rfl h3
    · exact absurd rfl (h4 _ _ _)
    · exact does_p hk
  case binOp op T x y yT =>
    cases hi : isIntT P T with
    | true =>
      simp only [hi, cond_true] at h
      obtain ⟨v, he, hk⟩ := h
      exact does_v ⟨v, w, intBin_run he, hk⟩
    | false =>
      simp only [hi, cond_false] at h
      split at h
      · rename_i q neg hm
        unfold eqMode at hm
        split at hm <;> first | (cases hm; done) | skip
        rename_i d hu
        split at hm <;> first | (cases hm; done) | skip
        rename_i q' hq
        split at hm <;> first | (cases hm; done) | skip
        rename_i neg' ho
        cases hb : (twoSided q' && !(isC x || isC y)) with
        | true => rw [hb] at hm; cases hm
        | false =>
          simp only [hb, cond_false, Option.some.injEq, Prod.mk.injEq] at hm
          obtain ⟨rfl, rfl⟩ := hm
          have hop : op = (if neg' then .neq else .eql) := by
            cases op <;> simp only [eqOp] at ho <;> first | (cases ho; done) | (cases ho; rfl)
          subst hop
          exact does_v (EqV_run rfl hu hq h)
      · exact does_v h
  case unOp op T x => exact does_v (un_run h)
  case convert s d x =>
    split at h
    · rename_i ds j hs hd; exact does_v (conv_run hs hd h)
    · exact does_v h
  case makeInterface T x =>
    split at h <;> first | exact h.elim | skip
    rename_i d hd hu
    refine does_v ⟨_, w, ?_, h⟩
    simp only [Instr.makeInterface, Sem.run_bind, run_underlying hu, Result.andThen_ok]
    rfl
  case makeFunc fn first cap =>
    have e : ∀ args : Array Operand, (args.toList.map ρ.ev).toArray = args.map ρ.ev := fun args => by rw [← Array.toList_map, Array.toArray_toList]
    rw [e, e] at h
    exact does_v ⟨_, w, by simp [Instr.makeFunc], h⟩
  case makeMap T r =>
    cases r with
    | none => exact does_v ⟨_, _, by simp [Instr.makeMap], h⟩
    | some r =>
      simp only at h
      split at h <;> first | exact h.elim | skip
      rename_i hu
      obtain ⟨⟨j, n, hr⟩, hk⟩ := h
      exact does_v ⟨_, _, by simp [Instr.makeMap, hr, run_underlying hu, asInt, asIntOf], hk⟩
  case makeSlice T l c =>
    split at h <;> first | exact h.elim | skip
    rename_i e hu
    split at h <;> first | exact h.elim | skip
    rename_i i hi
    split at h <;> first | exact h.elim | skip
    rename_i z hz
    exact does_v (makeS_run hu hi hz h)
  case slice T x lo hi mx =>
    split at h
    · rename_i e hu
      split at h <;> first | exact h.elim | skip
      rename_i i hi'
      exact does_v (cut_run hu hi' h)
    · exact does_v h
  case fieldAddr T x f =>
    split at h <;> first | exact h.elim | skip
    rename_i fs hu
    split at h <;> first | exact h.elim | skip
    rename_i fd hf
    split at h <;> first | exact h.elim | skip
    rename_i i hi
    cases hb : Nat.beq i.size 0 with
    | true => simp [hb] at h
    | false =>
      simp only [hb, cond_false] at h
      exact does_v (fieldAddr_run hu hf hi (fun e => by rw [e] at hb; cases hb) h)
  case field T x f =>
    split at h <;> first | exact h.elim | skip
    rename_i fs hu
    split at h <;> first | exact h.elim | skip
    rename_i fd hf
    split at h <;> first | exact h.elim | skip
    rename_i n hn
    exact does_v (field_run hu hf hn h)
  case indexAddr T x i =>
    split at h <;> first | exact h.elim | skip
    · rename_i e hu
      split at h <;> first | exact h.elim | skip
      rename_i j hj
      exact does_v (idxS_run hu hj h)
    · rename_i n e hu
      split at h <;> first | exact h.elim | skip
      rename_i j hj
      exact does_v (idxA_run hu hj h)
  case index T x i =>
    split at h
    · rename_i n e hu
      split at h <;> first | exact h.elim | skip
      rename_i j m hj hm
      exact does_v (idxV_run hu hj hm h)
    · exact does_v h
  case lookup T m key ok =>
    split at h <;> first | exact h.elim | skip
    rename_i kt e hu
    split at h
    · rename_i z hk hz; exact does_v (look_run hu hk hz h)
    · exact does_v h
  case mapUpdate T m key v =>
    split at h <;> first | exact h.elim | skip
    rename_i kt e hu
    split at h
    · rename_i hk; exact does_u (mapPut_run hu hk h)
    · exact does_u h
  case insert T m key v =>
    split at h <;> first | exact h.elim | skip
    rename_i kt e hu
    split at h
    · rename_i hk; exact does_u (mapPut_run hu hk h)
    · exact does_u h
  case extract t i =>
    obtain ⟨v, he, hk⟩ := h
    refine does_v ⟨v, w, ?_, hk⟩
    unfold tupV at he
    split at he
    · rename_i vs hvs; simp [Instr.extract, hvs, he]
    · cases he
  case range T x => exact does_v h
  case next it s => exact does_v h
  case entry it => exact does_v h
  case typeAssert x xt at_ ok => exact does_v h
  case call c => exact call_does h
theorem callW_mono {k' : Value → World → Prop} {c : Call} {ty : TypeId} {ρ : Env} (hk : ∀ v w', k v w' → k' v w') (h : callW P c ty ρ k w) : callW P c ty ρ k' w := by
  have hd : ∀ s : Sem Next, Does P s k w → Does P s k' w := by
    intro s h
    unfold Does at *
    split at h <;> first | exact hk _ _ h | exact CallsR.mono h hk | exact Rows.mono h hk | exact h.elim
  unfold callW at *
  split at h
  · cases hm : mayEnter P _ with
    | true => simp only [hm, cond_true] at h ⊢; exact h.mono hk
    | false => simp only [hm, cond_false] at h ⊢; exact hd _ h
  · obtain ⟨f, first, cap, hf, hm, hr⟩ := h; exact ⟨f, first, cap, hf, hm, hr.mono hk⟩
  · split at h <;> first | exact h.elim | skip
    · obtain ⟨v, he, h⟩ := h; exact ⟨v, he, hk _ _ h⟩
    · obtain ⟨v, he, h⟩ := h; exact ⟨v, he, hk _ _ h⟩
    · obtain ⟨v, he, h⟩ := h; exact ⟨v, he, hk _ _ h⟩
    · exact hk _ _ h
  · split at h <;> first | exact h.elim | skip
    obtain ⟨v, he, h⟩ := h; exact ⟨v, he, hk _ _ h⟩
  · split at h <;> first | exact h.elim | skip
    obtain ⟨v, he, h⟩ := h; exact ⟨v, he, hk _ _ h⟩
  · split at h <;> first | exact h.elim | skip
    obtain ⟨v, he, h⟩ := h; exact ⟨v, he, hk _ _ h⟩
  · split at h <;> first | exact h.elim | skip
    split at h <;> first | exact h.elim | skip
    split at h <;> first | exact h.elim | skip
    obtain ⟨base, sLen, sCap, xb, n, xc, h1, h2, h⟩ := h
    refine ⟨base, sLen, sCap, xb, n, xc, h1, h2, ?_⟩
    rcases h with ⟨a, new, w', b, c, d, h⟩ | ⟨a, b, c, old, new, d, e, f, g, h⟩
    · exact .inl ⟨a, new, w', b, c, d, hk _ _ h⟩
    · exact .inr ⟨a, b, c, old, new, d, e, f, g, fun c hc => hk _ _ (h c hc)⟩
    split at h <;> first | exact h.elim | skip
    split at h <;> first | exact h.elim | skip
    obtain ⟨base, sLen, sCap, j, m, h1, h2, h3, h4, h5, h⟩ := h
    refine ⟨base, sLen, sCap, j, m, h1, h2, h3, h4, h5, ?_⟩
    rcases h with ⟨a, w', d, h⟩ | ⟨a, b, c, old, d, e, h⟩
    · exact .inl ⟨a, w', d, hk _ _ h⟩
    · exact .inr ⟨a, b, c, old, d, e, fun c hc => hk _ _ (h c hc)⟩
  · split at h <;> first | exact h.elim | skip
    split at h <;> first | exact h.elim | skip
    obtain ⟨base, n, c, w', h1, h2, h⟩ := h
    exact ⟨base, n, c, w', h1, h2, hk _ _ h⟩
  · split at h <;> first | exact h.elim | skip
    split at h <;> first | exact h.elim | skip
    obtain ⟨base, dl, dc, sb, sl, sc, new, w', h1, h2, h3, h4, h5, h⟩ := h
    exact ⟨base, dl, dc, sb, sl, sc, new, w', h1, h2, h3, h4, h5, hk _ _ h⟩
  · split at h <;> first | exact h.elim | skip
    split at h <;> first | exact h.elim | skip
    rcases h with ⟨h1, h⟩ | ⟨b, arr, clock, r, h1, h2, h3, h⟩
    · exact .inl ⟨h1, hk _ _ h⟩
    · exact .inr ⟨b, arr, clock, r, h1, h2, h3, hk _ _ h⟩
  · exact hd _ h
  · exact hd _ h
theorem opW_mono {k' : Value → World → Prop} {o : Oper} {ρ : Env} (hk : ∀ v w', k v w' → k' v w') (h : opW P o ρ k w) : opW P o ρ k' w := by
  have ex : ∀ {α : Type} {φ : α → Prop} {f : α → Value} {g : α → World}, (∃ v, φ v ∧ k (f v) (g v)) → (∃ v, φ v ∧ k' (f v) (g v)) := fun ⟨v, a, b⟩ => ⟨v, a, hk _ _ b⟩
  obtain ⟨dst, op, type, pos, after, guard⟩ := o
  cases op <;> simp only [opW] at h ⊢ <;> first | exact h.elim | exact hk _ _ h | skip
  case pick => obtain ⟨t, a, b⟩ := h; exact ⟨t, a, hk _ _ b⟩
  case alloc => split at h <;> first | exact h.elim | exact hk _ _ h
  case build =>
    split at h <;> first | exact h.elim | skip
    · split at h <;> first | exact h.elim | exact ex h
    · split at h <;> first | exact h.elim | exact ex h
  case buildSlice =>
    split at h <;> first | exact h.elim | skip
    split at h <;> first | exact h.elim | skip
    split at h <;> first | exact h.elim | skip
    cases hb : Nat.beq _ _ with
    | false => rw [hb] at h; exact h.elim
    | true => rw [hb] at h; obtain ⟨a, v, b, h⟩ := h; exact ⟨a, v, b, hk _ _ h⟩
  case load =>
    split at h <;> first | exact h.elim | skip
    · obtain ⟨a, v, b, c, d, h⟩ := h; exact ⟨a, v, b, c, d, hk _ _ h⟩
    · obtain ⟨a, v, b, c, h⟩ := h; exact ⟨a, v, b, c, hk _ _ h⟩
  case store =>
    split at h <;> first | exact h.elim | skip
    obtain ⟨a, w', b, c, d, h⟩ := h; exact ⟨a, w', b, c, d, hk _ _ h⟩
  case nilCheck => exact ⟨h.1, hk _ _ h.2⟩
  case binOp op T x y yT =>
    cases hi : isIntT P T with
    | true => simp only [hi, cond_true] at h ⊢; exact ex h
    | false =>
      simp only [hi, cond_false] at h ⊢
      split at h
      · obtain ⟨v, a, b⟩ := h; exact ⟨v, a, hk _ _ b⟩
      · obtain ⟨v, w', a, b⟩ := h; exact ⟨v, w', a, hk _ _ b⟩
  case unOp => exact ex h
  case convert =>
    split at h
    · obtain ⟨i, n, a, b⟩ := h; exact ⟨i, n, a, hk _ _ b⟩
    · obtain ⟨v, w', a, b⟩ := h; exact ⟨v, w', a, hk _ _ b⟩
  case makeInterface => split at h <;> first | exact h.elim | exact hk _ _ h
  case makeMap T r =>
    cases r with
    | none => exact hk _ _ h
    | some r => simp only at h ⊢; split at h <;> first | exact h.elim | exact ⟨h.1, hk _ _ h.2⟩
  case makeSlice =>
    split at h <;> first | exact h.elim | skip
    split at h <;> first | exact h.elim | skip
    split at h <;> first | exact h.elim | skip
    obtain ⟨j, n, i, m, a, b, c, d, e, f, g, h⟩ := h; exact ⟨j, n, i, m, a, b, c, d, e, f, g, hk _ _ h⟩
  case slice =>
    split at h
    · split at h <;> first | exact h.elim | exact ex h
    · obtain ⟨v, w', a, b⟩ := h; exact ⟨v, w', a, hk _ _ b⟩
  case fieldAddr =>
    split at h <;> first | exact h.elim | skip
    split at h <;> first | exact h.elim | skip
    split at h <;> first | exact h.elim | skip
    cases hb : Nat.beq _ 0 with
    | true => simp only [hb, cond_true] at h
    | false => simp only [hb, cond_false] at h ⊢; obtain ⟨a, b, h⟩ := h; exact ⟨a, b, hk _ _ h⟩
  case field =>
    split at h <;> first | exact h.elim | skip
    split at h <;> first | exact h.elim | skip
    split at h <;> first | exact h.elim | exact ex h
  case indexAddr =>
    split at h <;> first | exact h.elim | skip
    · split at h <;> first | exact h.elim | exact ex h
    · split at h <;> first | exact h.elim | exact ex h
  case index =>
    split at h
    · split at h <;> first | exact h.elim | exact ex h
    · obtain ⟨v, w', a, b⟩ := h; exact ⟨v, w', a, hk _ _ b⟩
  case lookup =>
    split at h <;> first | exact h.elim | skip
    split at h
    · obtain ⟨es, r, a, b, h⟩ := h; exact ⟨es, r, a, b, hk _ _ h⟩
    · obtain ⟨v, w', a, b⟩ := h; exact ⟨v, w', a, hk _ _ b⟩
  case mapUpdate =>
    split at h <;> first | exact h.elim | skip
    split at h
    · obtain ⟨b, arr, clock, r, a1, a2, a3, h⟩ := h; exact ⟨b, arr, clock, r, a1, a2, a3, hk _ _ h⟩
    · obtain ⟨w', a, b⟩ := h; exact ⟨w', a, hk _ _ b⟩
  case insert =>
    split at h <;> first | exact h.elim | skip
    split at h
    · obtain ⟨b, arr, clock, r, a1, a2, a3, h⟩ := h; exact ⟨b, arr, clock, r, a1, a2, a3, hk _ _ h⟩
    · obtain ⟨w', a, b⟩ := h; exact ⟨w', a, hk _ _ b⟩
  case extract => exact ex h
  case range => obtain ⟨v, w', a, b⟩ := h; exact ⟨v, w', a, hk _ _ b⟩
  case next => obtain ⟨v, w', a, b⟩ := h; exact ⟨v, w', a, hk _ _ b⟩
  case entry => obtain ⟨v, w', a, b⟩ := h; exact ⟨v, w', a, hk _ _ b⟩
  case typeAssert => obtain ⟨v, w', a, b⟩ := h; exact ⟨v, w', a, hk _ _ b⟩
  case call => exact callW_mono hk h
/-- **what 'opW' asks makes the operation's wp hold.** -/
theorem opW_sound {o : Oper} {N : Nat} {a : Act} {ρ : Env} {next : Act → World → Prop} {Q : Exit → Act → World → Prop} (ha : Agree N a ρ) (h : opW P o ρ k w) (hk : ∀ v w', k v w' → next (a.put o.dst v) w') : o.wp P a w next Q :=
  wp_of_does (by rw [ha.eval]; exact opW_does h) hk
end
end Go.Wx
end
