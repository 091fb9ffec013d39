/- From the arguments as data to memory, and back: what a law's contract asks. No condition. BtreeFull answers true for every input, and leaves its arguments as they were. No condition. BtreeFull answers true for every input, and leaves its arguments as they were: the given statement. No condition. -/
import Derived.Test.YtemenmmekddjaaaGreatDoorCards
import Derived.Test.YtemenmmekddjaaaGreatDoorTie
import Derived.WalkKit
import Derived.OpenShut
import Derived.Carry
import Derived.Deep.Slices
import Derived.Deep.DeepHandedRow
import Derived.Lib.LaidTab
import Derived.Test.YtemenmmekddjaaaGreatDoorJ38
set_option linter.all false
set_option linter.unusedVariables false
set_option linter.unusedSimpArgs false
set_option linter.unnecessarySimpa false
set_option linter.unusedSectionVars false
set_option linter.constructorNameAsVariable false
section
namespace Go.Proofs.YtemenmmekddjaaaGreatDoor
open Go Go.Wx Go.W Go.ChangeShapes Go.WideShapes Go.ChangeAt Go.RowKit
/-- all blocks of a world. -/
def olds (W : World) : List Blk := (List.range W.heap.size).map fun k => (k, W.heap[k]?.getD (.cells #[] 0))
theorem olds_in {W : World} {k : Nat} {o : Obj} (h : W.heap[k]? = some o) : (k, o) ∈ olds W := by
  have hk : k < W.heap.size := (Array.getElem?_eq_some_iff.1 h).1
  refine List.mem_map.2 ⟨k, List.mem_range.2 hk, ?_⟩
  rw [h]; rfl
theorem sat_olds (W : World) : @Sat ⟨W⟩ (olds W) W [] := by
  letI : Origin := ⟨W⟩
  refine { nodup := ?_, here := fun p hp => ?_, kept := ⟨rfl, rfl⟩ }
  · show ((olds W ++ []).map Prod.fst).Nodup
    rw [List.append_nil]
    unfold olds
    rw [List.map_map]
    have : (Prod.fst ∘ fun k => (k, W.heap[k]?.getD (.cells #[] 0))) = (id : Nat → Nat) := by funext k; rfl
    rw [this, List.map_id]
    exact List.nodup_range
  · rw [List.append_nil] at hp
    obtain ⟨k, hk, rfl⟩ := List.mem_map.1 hp
    have hk := List.mem_range.1 hk
    dsimp only
    rw [Array.getElem?_eq_getElem hk]; rfl
theorem olds_same {W W' : World} {H : List Blk} (hs : @Sat ⟨W⟩ (olds W) W' H) (k : Nat) (hk : k < W.heap.size) : W'.heap[k]? = W.heap[k]? := by
  letI : Origin := ⟨W⟩
  have h := Array.getElem?_eq_getElem hk
  rw [h]
  exact hs.here _ (List.mem_append_left _ (olds_in h))
theorem olds_kept {W W' : World} {H : List Blk} (hs : @Sat ⟨W⟩ (olds W) W' H) (may : MemPlace → Prop) : W.keptBut W' may := by
  letI : Origin := ⟨W⟩
  refine ⟨hs.kept.1, hs.kept.2, fun i hi => ?_⟩
  rw [olds_same hs i hi]
  cases h : W.heap[i]? with
  | none => rfl
  | some o =>
    cases o <;> first | exact ⟨rfl, rfl, rfl, fun _ _ => rfl⟩ | exact .inr ⟨rfl, rfl⟩ | rfl
theorem olds_at {W W' : World} {H : List Blk} (hs : @Sat ⟨W⟩ (olds W) W' H) {p : MemPlace} (hp : p.block < W.heap.size) : W.sameAt W' p := by
  cases p with
  | cell b o => exact World.cell?_of_block (w := W) (olds_same hs b hp)
  | map b => exact olds_same hs b hp
theorem olds_frozen {W W' : World} {H : List Blk} (hs : @Sat ⟨W⟩ (olds W) W' H) (a : Addr) (ha : a.block < W.heap.size) : W'.frozen? a = W.frozen? a := by
  unfold World.frozen?
  rw [olds_same hs _ ha]
theorem cell_inv {W : World} {a : Addr} {y : Value} (h : W.cell? a = some y) : ∃ c T fr, W.heap[a.block]? = some (.cells c T fr) ∧ a.spot = none ∧ c[a.off]? = some y := by
  unfold World.cell? at h
  split at h
  · rename_i c T fr h1
    split at h
    · cases h
    · rename_i h2
      refine ⟨c, T, fr, h1, ?_, h⟩
      cases hs : a.spot with
      | none => rfl
      | some x => rw [hs] at h2; exact absurd rfl h2
  · cases h
/-- a slice of the arguments, read. -/
theorem rd_olds {W : World} {α : Type} {size cap : Nat} {a : Addr} {l : List α} {f : α → List Value} (hf : ∀ x ∈ l, (f x).length = size) (h0 : 0 < size) (hne : l ≠ [])
    (hc : ∀ i (hi : i < l.length) j y, (f l[i])[j]? = some y → W.cell? (a.add (i * size + j)) = some y) : Rd size (.slice (some a) l.length cap) (l.flatMap f) (olds W) := by
  have hl : 0 < l.length := List.length_pos_iff.2 hne
  have hl0 : 0 < (f l[0]).length := by rw [hf _ (List.getElem_mem _)]; exact h0
  have h1 := hc 0 hl 0 _ (List.getElem?_eq_getElem hl0)
  rw [Nat.zero_mul, Nat.zero_add, Addr.add, if_pos rfl] at h1
  obtain ⟨c, T, fr, g1, g2, g3⟩ := cell_inv h1
  obtain ⟨b, o, sp⟩ := a
  dsimp only at g1 g2 g3
  subst g2
  refine .some rfl (flat_len hf) ⟨T, c.toList, ⟨fr, by simpa using olds_in g1⟩, fun j x hj => ?_⟩
  have hjl : j < l.length * size := by
    have := (List.getElem?_eq_some_iff.1 hj).1
    rwa [flat_len hf] at this
  have hi : j / size < l.length := Nat.div_lt_of_lt_mul (by rwa [Nat.mul_comm] at hjl)
  have hr : j % size < (f l[j / size]).length := by
    rw [hf _ (List.getElem_mem _)]; exact Nat.mod_lt _ h0
  have he := List.getElem?_eq_getElem hr
  have h2 := flat_get hf hi he
  have hj2 : j / size * size + j % size = j := by rw [Nat.mul_comm]; exact Nat.div_add_mod j size
  rw [hj2, hj] at h2
  have h3 := hc _ hi _ _ he
  rw [hj2, ← Option.some.inj h2, Addr.add_lit] at h3
  obtain ⟨c', T', fr', q1, _, q3⟩ := cell_inv h3
  dsimp only at q1 q3
  rw [g1] at q1
  simp only [Option.some.injEq, Obj.cells.injEq] at q1
  rw [← q1.1] at q3
  simpa using q3
/-- what a row's 'post' asks, where nothing of what was there has turned. -/
theorem post_of_old {H : Type} {enc : TypeId × Value → H} {P : Program} {f : Func} {s : ChangeSpec} {apart fresh handsOn again : Bool} {W W' : World} {args : Array Value} {v : Value} {ds gs : List (DataW H)} {before pa pv : List MemPlace}
    (hW : DataW.Whole enc P f.params.toList s.vars apart W args.toList ds gs before)
    (hres : ∀ (b : Nat) (sp : Nat → Bool) (hd : Bool), DataW.TrodAll enc P W' b sp hd f.resultTypes.toList (v.resultList f.resultTypes.size) (s.fn H (ds ++ gs)).results [])
    (hargs : ∀ sp : Nat → Bool, (∀ p ∈ before, sp p.block = true) → DataW.TrodAll enc P W' 0 sp true f.params.toList args.toList (s.fn H (ds ++ gs)).args pa)
    (hvars : ∀ sp : Nat → Bool, (∀ p ∈ before, sp p.block = true) → DataW.TrodVars enc P W' sp s.vars (s.fn H (ds ++ gs)).vars pv)
    (hps : before = pa ++ pv) (hk : W.keptBut W' (· ∈ before)) (hfz : ∀ a : Addr, a.block < W.heap.size → W'.frozen? a = W.frozen? a)
    (hok : ∀ (j : Nat) (t : TypeId) (r : Value), f.resultTypes[j]? = some t → (v.resultList f.resultTypes.size)[j]? = some r → Value.okWide P W' .any 0 t r) :
    s.post enc P f apart fresh handsOn again W args v W' := by
  have hold : ∀ p ∈ before, (fun b => decide (b < W.heap.size)) p.block = true := fun p hp => by simpa using hW.lt p hp
  have hlt := hW.lt
  refine ⟨ds, gs, before, [], pa, pv, hW, hres _ _ _, hargs _ hold, hvars _ hold, World.keptBut_mono (fun p hp => ⟨hp, ?_⟩) hk, fun _ => ?_⟩
  · rw [hps, List.mem_append] at hp
    exact Or.inr hp
  · obtain ⟨_, _, _, _, _, hz, hn⟩ := hW
    refine ⟨hok, _, _, ([] ++ pa) ++ pv, ⟨[] ++ pa, pv, trodAll_append (hargs _ (fun _ _ => rfl)) (hres _ _ _), hvars _ (fun _ _ => rfl), rfl, ?_, ?_⟩, ?_⟩
    · intro b off hp
      have hp' : MemPlace.cell b off ∈ before := by rw [hps]; simpa using hp
      rw [hfz ⟨b, off, none⟩ (hlt _ hp')]
      exact hz b off hp'
    · intro ha
      have := hn ha
      rw [hps] at this
      simpa using this
    · intro p hp _
      rw [hps]
      simpa using hp
theorem own : ownKnob Tryz.prog.godebug = none := by kernel_rfl
theorem laidOut : laidOutB Tryz.prog = true := by kernel_rfl
theorem gTab : Tryz.prog.globalNamed "math/bits.deBruijn64tab" = some 0 := by kernel_rfl
theorem gTabType : (Tryz.prog.globals[0]?).map (·.type) = some 300 := by kernel_rfl
theorem tab_under : Tryz.prog.underlying 300 = some (.array 64 5) := by kernel_rfl
theorem u8_under : Tryz.prog.underlying 5 = some (.int .u8) := by kernel_rfl
theorem tab_cells : Tryz.prog.cellsOf 300 = 64 := by kernel_rfl
theorem u8_cells : Tryz.prog.cellsOf 5 = 1 := by kernel_rfl
theorem bool_under : Tryz.prog.underlying 4 = some .bool := by kernel_rfl
def tabZs : List Int := Lib.deBruijn64tab.map fun n : Nat => (n : Int)
theorem tab_of {W : World} (h : laidMetH Tryz.prog [("math/bits.deBruijn64tab", Rows.laid_math_bits_deBruijn64tab)] W) : Tab (olds W) := by
  have h1 : Lib.TabIs Tryz.prog W "math/bits.deBruijn64tab" .u8 tabZs := Lib.tabIs_of_head (rest := []) gTab gTabType tab_under u8_under u8_cells tab_cells h
  unfold Lib.TabIs World.var? at h1
  rw [gTab, Option.bind_some] at h1
  split at h1
  · rename_i cs T fr h2
    simp only [Option.some.injEq] at h1
    subst h1
    refine ⟨T, ⟨fr, ?_⟩⟩
    have := olds_in h2
    unfold tabZs at this
    rw [List.map_map] at this
    exact this
  · cases h1
end Go.Proofs.YtemenmmekddjaaaGreatDoor
end
section
namespace Go.Proofs.YtemenmmekddjaaaGreatDoor.lawFull
open Go Go.Wx Go.W Go.ChangeShapes Go.WideShapes Go.ChangeAt Go.RowKit
theorem pars : Tryz.f3.params.toList = [22, 23] := by kernel_rfl
theorem ints_under : Tryz.prog.underlying 22 = some (.slice 3) := by kernel_rfl
theorem int_under : Tryz.prog.underlying 3 = some (.int .i64) := by kernel_rfl
theorem int_cells : Tryz.prog.cellsOf 3 = 1 := by kernel_rfl
theorem ops_under : Tryz.prog.underlying 23 = some (.slice 35) := by kernel_rfl
theorem op_cells : Tryz.prog.cellsOf 35 = 4 := by kernel_rfl
theorem op_under : (Tryz.prog.underlying 35).map (fun d => match d with | .struct fs => fs.toList.map (fun f => (f.type, f.offset)) | _ => []) = some [(3, 0), (3, 1), (3, 2), (3, 3)] := by kernel_rfl
theorem len4 {α : Type} {l : List α} (h : l.length = 4) : ∃ a b c d, l = [a, b, c, d] := by
  match l, h with
  | [a, b, c, d], _ => exact ⟨a, b, c, d, rfl⟩
section
variable {H : Type} {enc : TypeId × Value → H} {W : World} {base : Nat} {spare : Nat → Bool} {held : Bool}
theorem open_op {fuel : Nat} {cs : List Value} {x : DataW H × List MemPlace} (h : DataW.trod enc Tryz.prog W base spare held fuel 35 cs = some x) : ∃ o : Op4, cs = op4 o := by
  have hu := op_under
  cases hd : Tryz.prog.underlying 35 with
  | none => rw [hd] at hu; cases hu
  | some d =>
    rw [hd] at hu
    cases d with
    | struct fs =>
      simp only [Option.map_some, Option.some.injEq] at hu
      obtain ⟨xs, k, _, _, hl, hxl, hf⟩ := DataW.trod_struct hd h
      rw [op_cells] at hl
      obtain ⟨f0, f1, f2, f3, hfs⟩ : ∃ f0 f1 f2 f3, fs.toList = [f0, f1, f2, f3] := by
        exact len4 (by simpa using congrArg List.length hu)
      rw [hfs] at hu
      simp only [List.map_cons, List.map_nil, List.cons.injEq, Prod.mk.injEq, and_true] at hu
      obtain ⟨⟨a0, b0⟩, ⟨a1, b1⟩, ⟨a2, b2⟩, a3, b3⟩ := hu
      have get : ∀ (i : Nat) (f : Field), fs[i]? = some f → f.type = 3 → f.offset = i → i < 4 → ∃ n : Int, cs[i]? = some (int n) := by
        intro i f hfi ht ho hi
        have h2 := hf i f hfi
        rw [ht, ho, int_cells] at h2
        have hxi : i < xs.length := by
          have := (Array.getElem?_eq_some_iff.1 hfi).1
          rw [hxl]
          simpa using this
        rw [List.getElem?_eq_getElem hxi] at h2
        obtain ⟨n, hn, _⟩ := DataW.trod_int int_under h2
        refine ⟨n, ?_⟩
        have := congrArg (·[0]?) hn
        simpa [List.getElem?_take, List.getElem?_drop] using this
      have fs_at : ∀ i, fs[i]? = [f0, f1, f2, f3][i]? := fun i => by rw [← hfs, Array.getElem?_toList]
      obtain ⟨n0, q0⟩ := get 0 f0 (fs_at 0) a0 b0 (by decide)
      obtain ⟨n1, q1⟩ := get 1 f1 (fs_at 1) a1 b1 (by decide)
      obtain ⟨n2, q2⟩ := get 2 f2 (fs_at 2) a2 b2 (by decide)
      obtain ⟨n3, q3⟩ := get 3 f3 (fs_at 3) a3 b3 (by decide)
      obtain ⟨c0, c1, c2, c3, hcs⟩ := len4 hl
      rw [hcs] at q0 q1 q2 q3 ⊢
      simp at q0 q1 q2 q3
      rw [q0, q1, q2, q3]
      exact ⟨(n0, n1, n2, n3), rfl⟩
    | _ => simp at hu
end
end Go.Proofs.YtemenmmekddjaaaGreatDoor.lawFull
end
section
namespace Go.Proofs.YtemenmmekddjaaaGreatDoor.lawFull
open Go Go.Wx Go.W Go.ChangeShapes Go.WideShapes Go.ChangeAt Go.RowKit
set_option maxRecDepth 100000
/-- the first argument, opened. -/
theorem open_sizes {H : Type} {enc : TypeId × Value → H} {W : World} {base : Nat} {v : Value} {d : DataW H} {ps : List MemPlace} (hv : Value.okWide Tryz.prog W .any base 22 v) (h : DataW.Trod enc Tryz.prog W 0 (fun _ => true) true 22 v d ps) :
    ∃ (ss : List Int) (a : Option Addr) (c : Nat), v = .slice a ss.length c ∧ (ss ≠ [] → Rd 1 v (ss.map int) (olds W)) := by
  obtain ⟨a, len, cap, rfl⟩ := okWide_slice ints_under hv
  obtain ⟨fuel, h⟩ := h
  rcases open_ints ints_under int_under int_cells h with ⟨h1, _⟩ | ⟨a', len', cap', zs, h1, _, hl, _, hz, _, hc, _⟩
  · have h1 : [Value.slice a len cap] = [.slice none 0 0] := h1
    simp only [List.cons.injEq, Value.slice.injEq, and_true] at h1
    obtain ⟨rfl, rfl, rfl⟩ := h1
    exact ⟨[], none, 0, rfl, fun h => absurd rfl h⟩
  · have h1 : [Value.slice a len cap] = [.slice (some a') len' cap'] := h1
    simp only [List.cons.injEq, Value.slice.injEq, and_true] at h1
    obtain ⟨rfl, rfl, rfl⟩ := h1
    rw [if_pos rfl] at hz
    have hlen : (zs.take len).length = len := by rw [List.length_take]; omega
    refine ⟨zs.take len, some a', cap, by rw [hlen], fun hne => ?_⟩
    rw [map_flat]
    have := rd_olds (W := W) (cap := cap) (a := a') (l := zs.take len) (f := fun x => [int x]) (size := 1) (fun _ _ => rfl) (by decide) hne (fun i hi j y hj => by
      have hj0 : j = 0 := by
        have := (List.getElem?_eq_some_iff.1 hj).1
        simpa using this
      subst hj0
      have hi' : i < zs.length := by rw [hlen] at hi; omega
      have hci := hc i hi'
      rw [Nat.mul_one, Nat.add_zero, hci]
      simp only [List.getElem?_cons_zero, Option.some.injEq] at hj
      rw [← hj, List.getElem_take]
      simp [List.getD, hi'])
    rw [hlen] at this
    exact this
/-- the second. -/
theorem open_ops {H : Type} {enc : TypeId × Value → H} {W : World} {base : Nat} {v : Value} {d : DataW H} {ps : List MemPlace} (hv : Value.okWide Tryz.prog W .any base 23 v) (h : DataW.Trod enc Tryz.prog W 0 (fun _ => true) true 23 v d ps) :
    ∃ (ops : List Op4) (a : Option Addr) (c : Nat), v = .slice a ops.length c ∧ (ops ≠ [] → Rd 4 v (ops.flatMap op4) (olds W)) := by
  obtain ⟨a, len, cap, rfl⟩ := okWide_slice ops_under hv
  obtain ⟨fuel, h⟩ := h
  rcases Deep.open_slice ops_under h with ⟨h1, _⟩ | ⟨a', len', cap', m, n, D, Pl, h1, _, hl, _, hm, _, hc⟩
  · have h1 : [Value.slice a len cap] = [.slice none 0 0] := h1
    simp only [List.cons.injEq, Value.slice.injEq, and_true] at h1
    obtain ⟨rfl, rfl, rfl⟩ := h1
    exact ⟨[], none, 0, rfl, fun h => absurd rfl h⟩
  · have h1 : [Value.slice a len cap] = [.slice (some a') len' cap'] := h1
    simp only [List.cons.injEq, Value.slice.injEq, and_true] at h1
    obtain ⟨rfl, rfl, rfl⟩ := h1
    rw [if_pos rfl] at hm
    rw [op_cells] at hc
    obtain ⟨F, hF⟩ := Deep.choose_lt (α := Op4) (n := len) (p := fun i o => W.cells? 0 (a'.add (i * 4)) 4 = some (op4 o)) (fun i hi => by
      obtain ⟨cs', g1, g2⟩ := hc i (by omega)
      obtain ⟨o, rfl⟩ := open_op g2
      exact ⟨o, g1⟩)
    have hlen : ((List.range len).map F).length = len := by simp
    refine ⟨(List.range len).map F, some a', cap, by rw [hlen], fun hne => ?_⟩
    have := rd_olds (W := W) (cap := cap) (a := a') (l := (List.range len).map F) (f := op4) (size := 4) (fun _ _ => rfl) (by decide) hne (fun i hi j y hj => by
      rw [hlen] at hi
      obtain ⟨_, g2, g3⟩ := World.cells?_some (hF i hi)
      have hj4 : j < 4 := by
        have := (List.getElem?_eq_some_iff.1 hj).1
        simpa using this
      have g4 := g3 j hj4
      rw [Deep.add_add] at g4
      rw [g4, ← hj]
      simp)
    rw [hlen] at this
    exact this
theorem contract (H : Type) (enc : TypeId × Value → H) (W : World) (base : Nat) (args : Array Value) (ds gs : List (DataW H)) (before : List MemPlace)
    (hval : ∀ (j : Nat) t v, Tryz.f3.params[j]? = some t → args[j]? = some v → Value.okWide Tryz.prog W .any base t v)
    (hW : DataW.Whole enc Tryz.prog Tryz.f3.params.toList Rows.btreeFullSpec.vars false W args.toList ds gs before) (hL : laidMetH Tryz.prog Rows.btreeFullRow.laid W) :
    Calls Tryz.prog 3 args W fun e W' => ∃ v, e = .returned v ∧ Rows.btreeFullSpec.post enc Tryz.prog Tryz.f3 false true false false W args v W' := by
  have hW' := hW
  have hlt := hW.lt
  obtain ⟨p, q, hA0, hV, rfl, hfz, hnd⟩ := hW
  have hA : DataW.TrodAll enc Tryz.prog W 0 (fun _ => true) true Tryz.f3.params.toList args.toList ds p := hA0
  rw [pars] at hA
  obtain ⟨v0, vs0, d0, ds0, p0, q0, hargs, rfl, rfl, h0, r0⟩ := trodAll_cons hA
  obtain ⟨v1, vs1, d1, ds1, p1, q1, rfl, rfl, rfl, h1, r1⟩ := trodAll_cons r0
  obtain ⟨rfl, rfl, rfl⟩ := trodAll_nil r1
  obtain ⟨rfl, rfl⟩ := trodVars_none hV
  obtain rfl : args = #[v0, v1] := by cases args; simp_all
  clear hA0 hA r0 r1
  have hpar0 : Tryz.f3.params[0]? = some 22 := by kernel_rfl
  have hpar1 : Tryz.f3.params[1]? = some 23 := by kernel_rfl
  obtain ⟨ss, a0, c0, e0, hr0⟩ := open_sizes (hval 0 _ v0 hpar0 rfl) h0
  obtain ⟨ops, a1, c1, e1, hr1⟩ := open_ops (hval 1 _ v1 hpar1 rfl) h1
  have hTab := tab_of hL
  letI : Origin := ⟨W⟩
  have hs : Sat (olds W) W [] := sat_olds W
  have walk := law_BtreeFull (k := fun v w' => v = .bool true ∧ Sat (olds W) w' []) hTab hs e0 e1 hr0 hr1 fun w' hs' => ⟨rfl, hs'⟩
  have walk : Calls Tryz.prog 3 #[v0, v1] W (Ret fun v w' => v = .bool true ∧ Sat (olds W) w' []) := walk
  refine walk.mono fun e W' he => ?_
  cases e with
  | returned v =>
    obtain ⟨rfl, hs'⟩ := he
    simp only [List.append_nil] at hW' hlt
    have same : ∀ p ∈ p0 ++ p1, W.sameAt W' p := fun p hp => olds_at hs' (hlt p hp)
    refine ⟨_, rfl, post_of_old (pa := p0 ++ p1) (pv := []) hW' (fun _ _ _ => ?_) (fun sp hsp => ?_) (fun _ _ => rfl) (by simp) (olds_kept hs' _) (fun a ha => olds_frozen hs' a ha) ?_⟩
    · exact trodAll_cons_mk (shut_bool bool_under _) trodAll_mk0
    · rw [pars]
      have g0 := WideElems.Trod_stays laidOut (by kernel_rfl) (of_decide_eq_true (by kernel_rfl)) h0 (W' := W') (sp' := sp) (fun p hp => same p (List.mem_append_left _ hp)) (fun p hp => hsp p (List.mem_append_left _ hp))
      have g1 := WideElems.Trod_stays laidOut (by kernel_rfl) (of_decide_eq_true (by kernel_rfl)) h1 (W' := W') (sp' := sp) (fun p hp => same p (List.mem_append_right _ hp)) (fun p hp => hsp p (List.mem_append_right _ hp))
      have := trodAll_cons_mk g0 (trodAll_cons_mk g1 trodAll_mk0)
      rw [show p0 ++ p1 = p0 ++ (p1 ++ []) by rw [List.append_nil]]
      exact this
    · exact ok_one (by kernel_rfl) rfl (okWide_bool_mk bool_under _)
  | _ => exact he.elim
end Go.Proofs.YtemenmmekddjaaaGreatDoor.lawFull
end
