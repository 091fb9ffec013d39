/- What (*change).fail does: a loop over slices.Backward. No condition. What (*change).fail does. No condition. -/
import Derived.RangeFuncBox
import Derived.RangeFuncLeaves
import Derived.Shelf.Abstract
import Derived.WalkKit
import Derived.OwnWalkIn
import Derived.TacticsInMore
import Derived.LoopNIn
import Derived.LoopIn
import Derived.RangeFuncCalls
import Derived.Test.YtemenmmekddjaaaGreatDoorJ23
import Derived.Test.YtemenmmekddjaaaGreatDoorJ28
set_option linter.all false
set_option linter.unusedVariables false
set_option linter.unusedSimpArgs false
set_option linter.unnecessarySimpa false
set_option linter.unusedSectionVars false
set_option linter.constructorNameAsVariable false
section
namespace Go.Proofs.YtemenmmekddjaaaGreatDoor
open Go Go.Proofs Go.Wx Go.W Go.RowKit Go.Shelf
variable {ω : Go.W.Origin}
attribute [local go_sem] Oper.semAt_some
theorem Backward_in (F : Fence) (n : Nat) (h5 : F.fn 146) (hro : F.round = none) (a : Option Addr) (len cap : Nat) (w : World) :
    CallsIn F n Tryz.prog 146 #[.slice a len cap] w fun e w' => e = .returned (.func (.func 182) #[] #[.pointer (some ⟨w.heap.size, 0, none⟩)]) ∧ w' = w.alloc (.cells #[.slice a len cap] 22) := by
  refine callsIn_of_wp Tryz.func146 rfl h5 ?_ hro
  simp only [Tryz.ntmps146, List.size_toArray, List.length_cons, List.length_nil, Nat.reduceAdd, Nat.reduceSub, Array.replicate_succ, Array.replicate_zero, List.push_toArray, List.append_toArray, List.nil_append, List.cons_append]
  gi_wp2
  go_ret
  exact ⟨rfl, rfl⟩
set_option maxRecDepth 100000 in
set_option maxHeartbeats 2000000 in
/-- the closure of slices.Backward, whatever a round does: J: what is true when the last ones are over. -/
theorem Backward1_in (F : Fence) (n : Nat) (h7 : F.fn 182) (hro : F.round = none) (hn : 1 ≤ n) (l Bs b off len cap : Nat) (zs : List Int) (hz : zs.length = len) (hlen : len < 65536) (J : Nat → World → Prop)
    (hc : ∀ k W, J k W → W.cell? ⟨Bs, 0, none⟩ = some (.slice (some ⟨b, off, none⟩) len cap) ∧ ∀ j (h : j < zs.length), W.cell? ⟨b, off + j, none⟩ = some (.int .i64 zs[j]))
    (hY : ∀ k (h : k < zs.length) W, J (k + 1) W → YieldAt F (n - 1) Tryz.prog l #[.int .i64 k, .int .i64 zs[k]] W fun e W' => e = .returned (.bool true) ∧ J k W')
    (W : World) (h0 : J len W) :
    CallsIn F n Tryz.prog 182 #[.func (.yield l) #[] #[], .pointer (some ⟨Bs, 0, none⟩)] W fun e W' => (∃ v, e = .returned v) ∧ J 0 W' := by
  refine callsIn_of_wp Tryz.func182 rfl h7 ?_ hro
  simp only [Tryz.ntmps182, List.size_toArray, List.length_cons, List.length_nil, Nat.reduceAdd, Nat.reduceSub, Array.replicate_succ, Array.replicate_zero, List.push_toArray, List.append_toArray, List.nil_append, List.cons_append]
  have hc0 := (hc _ _ h0).1
  gi_wp2
  gi_loopw [3] (fun i wr => ∃ k : Nat, k ≤ len ∧ i = .int .i64 ((k : Int) - 1) ∧ J k wr) (fun i _ => (intOf i + 1).toNat)
  case atStart => exact ⟨len, Nat.le_refl _, rfl, h0⟩
  case round =>
    obtain ⟨k, hk, rfl, hJs⟩ := hrel
    have hcx := hc k wr hJs
    cases k with
    | zero =>
      gi_wp2
      go_end0
      exact ⟨⟨_, rfl⟩, hJs⟩
    | succ k =>
      have hkz : k < zs.length := by omega
      have e1 : ((k + 1 : Nat) : Int) - 1 = (k : Int) := by omega
      rw [e1]
      obtain ⟨fn, tmps, assign, body, hy, hR⟩ := hY k hkz wr hJs
      have hcx1 := hcx.1
      have hcx2 := hcx.2 k hkz
      gi_wp2
      refine hR.mono ?_
      rintro e W3 ⟨rfl, hJ3⟩
      gi_wp2
      go_roundw
      case rel => exact ⟨k, by omega, rfl, hJ3⟩
      case measure => simp [intOf]; try omega
/-- .. at the nil slice: no round. -/
theorem Backward1_nil_in (F : Fence) (n : Nat) (h7 : F.fn 182) (hro : F.round = none) (l Bs c : Nat) (J : World → Prop) (W : World) (hBs : W.cell? ⟨Bs, 0, none⟩ = some (.slice none 0 c)) (h0 : J W) :
    CallsIn F n Tryz.prog 182 #[.func (.yield l) #[] #[], .pointer (some ⟨Bs, 0, none⟩)] W fun e W' => (∃ v, e = .returned v) ∧ J W' := by
  refine callsIn_of_wp Tryz.func182 rfl h7 ?_ hro
  simp only [Tryz.ntmps182, List.size_toArray, List.length_cons, List.length_nil, Nat.reduceAdd, Nat.reduceSub, Array.replicate_succ, Array.replicate_zero, List.push_toArray, List.append_toArray, List.nil_append, List.cons_append]
  gi_wp2
  gi_loopw [3] (fun i wr => i = .int .i64 (-1) ∧ J wr) (fun _ _ => 0)
  case atStart => exact ⟨rfl, h0⟩
  case round =>
    obtain ⟨rfl, hJs⟩ := hrel
    gi_wp2
    go_end0
    exact ⟨⟨_, rfl⟩, hJs⟩
section
variable {G H R Hb P : List Blk} {w : World} {k : K} {b bb sb : Nat} {σ σ' : Sto} {wv : Value}
theorem Sat.putObj {l : Nat} {o o' : Obj} {X : List Blk} (hs : Sat G w ((l, o) :: X)) : Sat G (w.putObj l o') ((l, o') :: X) := hs.set .head
/-- 'for _, x := range slices.Backward(xs) { .. }', whose body is never left early. -/
theorem range_back {g : Operand} {p1 p2 : Tmp} {assign body : Code} {Q : Exit → Act → World → Prop} {a : Act} {W0 : World} {n Bs : Nat} {v : Value} {xs : List Int} {Y : List Blk} (hn : 3 ≤ n) (had : a.defers = [])
    (hg : a.eval g = .func (.func 182) #[] #[.pointer (some ⟨Bs, 0, none⟩)]) (hbox : (Bs, row 22 [v]) ∈ Y) (hr : Rd 1 v (xs.map int) Y) (hlen : xs.length < 65536)
    (I : Nat → List Blk → Prop) {X0 : List Blk} (h0 : I xs.length X0) (hs : Sat G W0 (X0 ++ Y)) (a₁ : Int → Int → Act)
    (hassign : ∀ (l : Nat) (i x : Int) (W : World) (K : Act → World → Prop), K (a₁ i x) W → assign.wpIn (Fence.wide.inRound l) (n - 1 - 1) Tryz.prog (Exit.then K (fun _ _ _ => False)) { tmps := ((#[p1, p2] : Array Tmp).zip #[int i, int x]).foldl (fun t (p, v) => t.setIfInBounds p v) a.tmps, defers := [] } W)
    (hbody : ∀ (l : Nat) (k : Nat) (h : k < xs.length) (X Z : List Blk) (W : World), I (k + 1) X → Sat G W (X ++ (Y ++ Z)) → body.wpIn (Fence.wide.inRound l) (n - 1 - 1) Tryz.prog (fun e _ W' => e = .normal ∧ ∃ X', I k X' ∧ Sat G W' (X' ++ (Y ++ Z))) (a₁ k xs[k]) W)
    (hdone : ∀ (D : Nat) (X : List Blk) (W : World), I 0 X → Sat G W ((D, .deferred (some [])) :: (X ++ Y)) → Q .normal { a with defers := [{ target := .collected D, args := #[] }] } W) :
    (Code.rangeFunc g #[p1, p2] assign body).wpIn Fence.wide n Tryz.prog Q a W0 := by
  refine wpIn_rangeFunc ?_
  intro fn hfn
  have hro : Fence.wide.round = none := rfl
  rw [hro]
  obtain ⟨rec, hrec⟩ : ∃ rec : LoopState → Option Code → Loop, rec = fun st pe => { state := st, pending := pe, fn, tmps := a.tmps, params := #[p1, p2], assign, body, defers := W0.heap.size } := ⟨_, rfl⟩
  obtain ⟨W1, hW1⟩ : ∃ W1, (W0.alloc (.deferred (some []))).alloc (.loop (rec .ready none)) = W1 := ⟨_, rfl⟩
  have hs1 : Sat G W1 ((W0.heap.size + 1, .loop (rec .ready none)) :: (W0.heap.size, .deferred (some [])) :: (X0 ++ Y)) := by
    rw [← hW1]
    have := (hs.alloc (.deferred (some []))).alloc (.loop (rec .ready none))
    rwa [World.size_alloc] at this
  let J : Nat → World → Prop := fun k W => ∃ X, I k X ∧ Sat G W ((W0.heap.size + 1, .loop (rec .ready none)) :: (W0.heap.size, .deferred (some [])) :: (X ++ Y))
  have eg : ∀ args w, (callFunc 182 args).run Tryz.prog w = .ok (.enter 182 args) w := enters_of Tryz.func182 (by kernel_rfl) rfl
  refine ⟨W0.heap.size + 1, [{ target := .collected W0.heap.size, args := #[] }], W1, { target := .fn (.func 182) #[.pointer (some ⟨Bs, 0, none⟩)], args := #[.func (.yield (W0.heap.size + 1)) #[] #[]] }, W1, 182,
    #[.func (.yield (W0.heap.size + 1)) #[] #[]] ++ #[.pointer (some ⟨Bs, 0, none⟩)], W1, ?_, ?_, fun _ _ => trivial, ?_, fun _ => by omega, ?_⟩
  · rw [← hW1, hrec]; exact run_enterLoop_outer _ _ _ _ _
  · simp only [resolve, hg]
    simp [go_sem]
  · simp [invoke, go_sem, eg]
  · have hJ0 : J xs.length W1 := ⟨X0, h0, hs1⟩
    have hmY : ∀ {X : List Blk} {x y : Blk}, ∀ p ∈ Y, p ∈ x :: y :: (X ++ Y) := fun p hp => .tail _ (.tail _ (List.mem_append_right _ hp))
    have hround : ∀ k (h : k < xs.length) W, J (k + 1) W → YieldAt Fence.wide (n - 1 - 1) Tryz.prog (W0.heap.size + 1) #[.int .i64 k, .int .i64 xs[k]] W fun e W' => e = .returned (.bool true) ∧ J k W' := by
      rintro k hk W ⟨X, hi, hsW⟩
      have hl := hsW.get (.head _)
      have hy := run_yield (P := Tryz.prog) (args := #[.int .i64 k, .int .i64 xs[k]]) hl (by rw [hrec]; rfl)
      rw [hrec] at hy
      refine ⟨fn, _, assign, body, hy, roundIn_of_wpIn hfn ?_⟩
      refine hassign _ k xs[k] W _ ?_
      refine ⟨_, run_beginRound hl (by rw [hrec]), ?_⟩
      have hs2 : Sat G (W.putObj (W0.heap.size + 1) (.loop { rec .ready none with state := .busy })) (X ++ (Y ++ [(W0.heap.size + 1, .loop { rec .ready none with state := .busy }), (W0.heap.size, .deferred (some []))])) := (Sat.putObj hsW).perm (by refine perm_of_cnt fun a => ?_; simp only [cnt_app, cnt_cons, cnt_nil] at *; omega)
      refine wpIn_mono (hbody _ k hk X _ _ hi hs2) ?_
      rintro e a3 W3 ⟨rfl, X', hi', hs3⟩
      have hs3 := hs3.perm (H' := (W0.heap.size + 1, .loop { rec .ready none with state := .busy }) :: (W0.heap.size, .deferred (some [])) :: (X' ++ Y)) (by refine perm_of_cnt fun a => ?_; simp only [cnt_app, cnt_cons, cnt_nil] at *; omega)
      have hr3 := run_endRound (P := Tryz.prog) none (hs3.get (.head _))
      refine ⟨_, _, hr3, rfl, X', hi', ?_⟩
      have := Sat.putObj (o' := .loop (rec .ready none)) hs3
      rw [hrec] at this ⊢
      exact this
    have hfin : ∀ W2, J 0 W2 → ∃ jump w₄, (Instr.endLoop (W0.heap.size + 1)).run Tryz.prog W2 = .ok jump w₄ ∧ (match jump with
        | none => Q .normal { a with defers := [{ target := .collected W0.heap.size, args := #[] }] ++ a.defers } w₄
        | some c => c.wpIn Fence.wide n Tryz.prog Q { a with defers := [{ target := .collected W0.heap.size, args := #[] }] ++ a.defers } w₄) := by
      rintro W2 ⟨X, hi, hs2⟩
      have hl := hs2.get (.head _)
      refine ⟨none, _, by have := run_endLoop (P := Tryz.prog) hl (by rw [hrec]; simp); rw [hrec] at this; exact this, ?_⟩
      rw [had, List.append_nil]
      exact hdone _ X _ hi (Sat.putObj hs2).tail
    cases hr with
    | @nil c hv hx =>
      subst hv
      have hx0 : xs.length = 0 := by simpa using congrArg List.length hx
      rw [hx0] at hJ0
      refine (Backward1_nil_in Fence.wide (n - 1) trivial rfl _ Bs c (J 0) W1 (cell_row (hs1.get (hmY _ hbox)) rfl) hJ0).mono ?_
      rintro e W2 ⟨⟨v, rfl⟩, hj⟩
      exact hfin W2 hj
    | @some b o m c hv hm hl =>
      subst hv
      have hm' : xs.length = m := by simpa using hm
      refine (Backward1_in Fence.wide (n - 1) trivial rfl (by omega) (W0.heap.size + 1) Bs b o m c xs hm' (by omega) J (fun k W ⟨X, hi, hsW⟩ => ⟨cell_row (hsW.get (hmY _ hbox)) rfl, fun j hj => ?_⟩) hround W1 (hm' ▸ hJ0)).mono ?_
      · obtain ⟨T, cs, h1, h2⟩ := hl
        exact (h1.mono hmY).cell hsW (h2 j _ (by rw [List.getElem?_map, List.getElem?_eq_getElem hj]; rfl))
      · rintro e W2 ⟨⟨v, rfl⟩, hj⟩
        exact hfin W2 hj
end
end Go.Proofs.YtemenmmekddjaaaGreatDoor
end
section
namespace Go.Proofs.YtemenmmekddjaaaGreatDoor
open Go Go.Proofs Go.Wx Go.W Go.RowKit Go.Shelf
variable {ω : Go.W.Origin}
attribute [local go_sem] Oper.semAt_some
section
variable {G H R Hb P : List Blk} {w : World} {k : K} {b bb sb : Nat} {σ σ' : Sto} {wv : Value}
theorem calls_of {f : FuncId} {args : List Value} {R' : Value → World → Prop} (h : call Tryz.prog w f args R') : Calls Tryz.prog f args.toArray w (fun e w' => ∃ v, e = .returned v ∧ R' v w') :=
  Calls.mono h fun e w' he => by
    cases e with
    | returned v => exact ⟨v, rfl, he⟩
    | panicked c => exact he.elim
    | outgrown => exact he.elim
set_option maxRecDepth 100000 in
set_option maxHeartbeats 4000000 in
theorem change_fail {cb : Nat} {v : Value} {c : List Int} (hs : Sat G w H) (h : WldR G b bb sb σ wv P Hb) (hsel : Sel Hb H R) (hcb : (cb, row 166 [ptr b, v]) ∈ R) (hr : Rd 1 v (c.map int) R) (hlen : c.length < 65536) (hf : FailR σ c.reverse σ')
    (hk : ∀ Hb' w', WldR G b bb sb σ' wv P Hb' → Sat G w' (Hb' ++ R) → k (.tuple #[]) w') : call Tryz.prog w 97 [ptr cb] k := by
  show Calls Tryz.prog 97 #[ptr cb] w (Ret k)
  refine (callsIn_wide (n := 9)).1 ?_
  have hro : Fence.wide.round = none := rfl
  refine callsIn_of_wp_marks Tryz.func97 rfl trivial ?_ rfl
  simp only [Tryz.ntmps97, List.size_toArray, List.length_cons, List.length_nil, Nat.reduceAdd, Nat.reduceSub, Array.replicate_succ, Array.replicate_zero, List.push_toArray, List.append_toArray, List.nil_append, List.cons_append]
  have hs := hs.sel hsel
  obtain ⟨va, vn, vc, rfl⟩ := hr.form
  have hs1 := hs.alloc (row 164 [ptr cb])
  have hc1 : (w.alloc (.cells #[ptr cb] 164)).cell? ⟨w.heap.size, 0, none⟩ = some (ptr cb) := cell_row (cs := [ptr cb]) (hs1.get (.head _)) rfl
  have hc2 : (w.alloc (.cells #[ptr cb] 164)).cell? ⟨cb, 1, none⟩ = some (.slice va vn vc) := cell_row (hs1.get (.tail _ (List.mem_append_right _ hcb))) rfl
  gi_wp2_with (refine ⟨trivial, ?_⟩; gi_at_call 146; refine (Backward_in Fence.wide 8 trivial rfl _ _ _ _).mono ?_; rintro e w' ⟨rfl, rfl⟩)
  have hs2 := hs1.alloc (row 22 [Value.slice va vn vc])
  rw [World.size_alloc] at hs2
  obtain ⟨B1, hB1⟩ : ∃ B1, w.heap.size = B1 := ⟨_, rfl⟩
  obtain ⟨W0, hW0⟩ : ∃ W0, (w.alloc (row 164 [ptr cb])).alloc (row 22 [Value.slice va vn vc]) = W0 := ⟨_, rfl⟩
  have hW02 : (w.alloc (.cells #[ptr cb] 164)).alloc (.cells #[Value.slice va vn vc] 22) = W0 := hW0
  simp only [hW02, hB1]
  rw [hW0, hB1] at hs2
  have hs3 : Sat G W0 (Hb ++ ((B1 + 1, row 22 [Value.slice va vn vc]) :: (B1, row 164 [ptr cb]) :: R)) := hs2.perm (by refine perm_of_cnt fun a => ?_; simp only [cnt_app, cnt_cons, cnt_nil] at *; omega)
  refine range_back (Bs := B1 + 1) (v := .slice va vn vc) (xs := c) (by omega) rfl rfl (List.Mem.head _) (hr.mono fun p hp => .tail _ (.tail _ hp)) hlen (fun k X => ∃ σi, FailR σi (c.take k).reverse σ' ∧ WldR G b bb sb σi wv P X) ⟨σ, by rw [List.take_length]; exact hf, h⟩ hs3
    (fun i x => { tmps := #[ptr cb, Value.pointer (some { block := B1, off := 0 }), undef, int x, ptr cb, Value.pointer (some { block := cb, off := 0 }), Value.pointer (some { block := cb, off := 1 }), Value.slice va vn vc, Value.func (Fn.func 182) #[] #[Value.pointer (some { block := B1 + 1, off := 0 })], int i, int x, undef, undef, undef, undef, undef, undef, undef, undef, undef, undef, undef, undef, undef], defers := [] }) ?assign ?body ?done
  case assign =>
    intro l i x W K hK
    gi_wp2
    exact hK
  case body =>
    rintro l k hk' X Z W ⟨σi, hf, hW⟩ hsW
    have hd1 : W.cell? ⟨B1, 0, none⟩ = some (ptr cb) := cell_row (cs := [ptr cb]) (hsW.get (List.mem_append_right _ (List.mem_append_left _ (.tail _ (.head _))))) rfl
    have hd2 : W.cell? ⟨cb, 0, none⟩ = some (ptr b) := cell_row (hsW.get (List.mem_append_right _ (List.mem_append_left _ (.tail _ (.tail _ hcb))))) rfl
    have hH := calls_of (pages_Holds (a := c[k]) (k := fun v w' => v = int (match σi.pg c[k] with | some p => p.holds | none => 0) ∧ w' = W) hsW hW .here ⟨rfl, rfl⟩)
    have htk : (c.take (k + 1)).reverse = c[k] :: (c.take k).reverse := by
      rw [List.take_add_one, List.getElem?_eq_getElem hk', List.reverse_append]; rfl
    rw [htk] at hf
    have hSc : (match σi.pg c[k] with | some p => p.holds | none => 0) = 0 → Calls Tryz.prog 147 #[ptr b, int c[k]] W (fun e w' => ∃ v, e = .returned v ∧ ∃ X', (∃ σ2, FailR σ2 (c.take k).reverse σ' ∧ WldR G b bb sb σ2 wv P X') ∧ Sat G w' (X' ++ (((B1 + 1, row 22 [Value.slice va vn vc]) :: (B1, row 164 [ptr cb]) :: R) ++ Z))) := by
      intro h0
      generalize hx : c[k] :: (c.take k).reverse = cc at hf
      cases hf with
      | nil => cases hx
      | skip hp hne _ => cases hx; rw [hp] at h0; exact absurd h0 hne
      | miss hp t => cases hx; exact calls_of (pages_Scrap_none hsW hW .here hp fun w' hs' => ⟨X, ⟨_, t, hW⟩, hs'⟩)
      | go hp hz hT t1 t => cases hx; exact calls_of (pages_Scrap_go hsW hW .here hp hz hT t1 fun Hb' w' hW' hs' => ⟨Hb', ⟨_, t, hW'⟩, hs'⟩)
    have hSk : (match σi.pg c[k] with | some p => p.holds | none => 0) ≠ 0 → FailR σi (c.take k).reverse σ' := by
      intro h0
      generalize hx : c[k] :: (c.take k).reverse = cc at hf
      cases hf with
      | nil => cases hx
      | skip hp hne t => cases hx; exact t
      | miss hp t => cases hx; rw [hp] at h0; exact absurd rfl h0
      | go hp hz hT t1 t => cases hx; rw [hp] at h0; exact absurd hz h0
    clear hf htk
    generalize hq : (match σi.pg c[k] with | some p => p.holds | none => 0) = q at hH hSc hSk
    by_cases h0 : q = 0
    · subst h0
      have hSc := hSc rfl
      gi_wp2
      refine ⟨trivial, ?_⟩
      gi_at_call 14
      refine (CallsIn.inRound l (callsIn_wide.2 hH)).mono ?_
      rintro e w' ⟨v, rfl, rfl, rfl⟩
      gi_wp2
      refine ⟨trivial, ?_⟩
      gi_at_call 147
      refine (CallsIn.inRound l (callsIn_wide.2 (hSc trivial))).mono ?_
      rintro e w' ⟨v, rfl, X', ⟨σ2, hf2, hW2⟩, hs2⟩
      gi_wp2
      exact ⟨X', ⟨σ2, hf2, hW2⟩, by simpa using hs2⟩
    · have hSk := hSk h0
      gi_wp2_with (refine ⟨trivial, ?_⟩; gi_at_call 14; refine (CallsIn.inRound l (callsIn_wide.2 hH)).mono ?_; rintro e w' ⟨v, rfl, rfl, rfl⟩)
      exact ⟨X, ⟨σi, hSk, hW⟩, by simpa using hsW⟩
  case done =>
    rintro D X W ⟨σi, hf, hW⟩ hsW
    have hK := hsW.get (.head _)
    gi_wp2
    refine ⟨by simp, .inl ⟨_, _, rfl, run_takeDeferred hK, ?_⟩⟩
    cases hf
    have hs5 : Sat G (W.putObj D (.deferred none)) ((D, .deferred none) :: (X ++ ((B1 + 1, row 22 [Value.slice va vn vc]) :: (B1, row 164 [ptr cb]) :: R))) := Sat.putObj hsW
    exact ⟨_, results_none rfl _ _ _, hk X _ hW ((hs5.perm (H' := [(D, .deferred none), (B1 + 1, row 22 [Value.slice va vn vc]), (B1, row 164 [ptr cb])] ++ (X ++ R)) (by refine perm_of_cnt fun a => ?_; simp only [cnt_app, cnt_cons, cnt_nil] at *; omega)).drop)⟩
end
end Go.Proofs.YtemenmmekddjaaaGreatDoor
end
