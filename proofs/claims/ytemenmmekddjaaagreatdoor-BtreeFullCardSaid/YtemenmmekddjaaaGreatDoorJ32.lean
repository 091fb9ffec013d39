/- What slices.Sorted(maps.Keys(m)) does. No condition. What (*Store).Pages does: the addresses of all pages, rising. No condition. -/
import Derived.Sort.MapsRangeIn
import Derived.Test.YtemenmmekddjaaaGreatDoorJ29
import Derived.Test.YtemenmmekddjaaaGreatDoorJ31
set_option linter.all false
set_option linter.unusedVariables false
set_option linter.unusedSimpArgs false
set_option linter.unnecessarySimpa false
set_option linter.unusedSectionVars false
set_option linter.constructorNameAsVariable false
section
namespace Go.Proofs.YtemenmmekddjaaaGreatDoor
open Go Go.Proofs Go.Wx Go.W Go.RowKit Go.Shelf
variable {ω : Go.W.Origin}
attribute [local go_sem] Oper.semAt_some
section
variable {F : Fence} {n : Nat} {P : Program} {ops : Array Oper} {rest : List Oper} {o : Oper} {a : Act} {Q : Exit → Act → World → Prop}
theorem wpListIn_range_r (w : World) (hg : o.guard = none) (m : Operand) (t : TypeId) (hop : o.op = Op.range t m) {v v' : Value} {w' : World} (hm : a.eval m = v) (hrun : (Instr.range t v).run P w = .ok v' w')
    (hK : wpListIn F n P ops Q rest (a.put o.dst v') w') : wpListIn F n P ops Q (o :: rest) a w := by
  refine wpListIn_plain hg fun K' hK' => ?_
  unfold Oper.wpIn
  refine ⟨?_, ?_⟩
  · simp [Oper.about, hop]
  · rw [Oper.semAt_plain F _ _ (by rw [hop]; intro c hc'; cases hc')]
    simp [execOp, hop, hm, hrun, Result.andThen]
    exact hK' _ _ hK
theorem wpListIn_next_r (w : World) (hg : o.guard = none) (m : Operand) (hop : o.op = Op.next m false) {v v' : Value} {w' : World} (hm : a.eval m = v) (hrun : (Instr.next v false o.type).run P w = .ok v' w')
    (hK : wpListIn F n P ops Q rest (a.put o.dst v') w') : wpListIn F n P ops Q (o :: rest) a w := by
  refine wpListIn_plain hg fun K' hK' => ?_
  unfold Oper.wpIn
  refine ⟨?_, ?_⟩
  · simp [Oper.about, hop]
  · rw [Oper.semAt_plain F _ _ (by rw [hop]; intro c hc'; cases hc')]
    simp [execOp, hop, hm, hrun, Result.andThen]
    exact hK' _ _ hK
theorem wpListIn_append_r (w : World) (hg : o.guard = none) (s x : Operand) (T T' e e' : TypeId) (i : TypeInfo) (z : Value) (hop : o.op = .call { callee := .builtin .append, args := #[s, x], argTypes := #[T, T'] })
    (hu : P.underlying T = some (.slice e)) (hu' : P.underlying T' = some (.slice e')) (hi : P.info? e = some i) (hz : i.zero = some z) {sv xv : Value} (hs : a.eval s = sv) (hx : a.eval x = xv)
    (h : Append (fun v w' => wpListIn F n P ops Q rest (a.put o.dst v) w') w e i.size i.bytes z.cells sv xv) : wpListIn F n P ops Q (o :: rest) a w := by
  refine wpListIn_plain hg fun K' hK' => ?_
  obtain ⟨v, w', hrun, hK⟩ := append_run (ty := o.type) hu hu' hi hz h
  unfold Oper.wpIn
  refine ⟨?_, ?_⟩
  · simp only [Oper.about, hop]
    intro f hf
    simp [resolve, Target.leads] at hf
    try (cases hf)
  · rw [Oper.semAt_plain F _ _ (by rw [hop]; intro c hc'; cases hc')]
    simp [execOp, hop, resolve, invoke, builtin, hs, hx, hrun, Result.andThen]
    exact hK' _ _ hK
end
section
variable {G H R Hb P : List Blk} {w : World} {k : K}
theorem sub_len {α : Type} : ∀ {l m : List α}, l.Nodup → (∀ x ∈ l, x ∈ m) → l.length ≤ m.length
  | [], _, _, _ => Nat.zero_le _
  | x :: l, m, hn, h => by
    obtain ⟨s, t, rfl⟩ := List.append_of_mem (h x (by simp))
    rw [List.nodup_cons] at hn
    have := sub_len (m := s ++ t) hn.2 fun y hy => by
      have h1 := h y (by simp [hy])
      rcases List.mem_append.1 h1 with h1 | h1
      · exact List.mem_append_left _ h1
      · rcases List.mem_cons.1 h1 with rfl | h1
        · exact absurd hy hn.1
        · exact List.mem_append_right _ h1
    simp at this ⊢; omega
/-- the closure of maps.Keys, whatever a round does. -/
theorem Keys1_in (F : Fence) (n : Nat) (h7 : F.fn 117) (hro : F.round = none) (hn : 1 ≤ n) (l Bm bm clock : Nat) (es : List MapEntry) (ks : List Int) (hks : es.map (·.key) = ks.map int) (hb : ∀ e ∈ es, e.born < clock) (hnd : (es.map fun e : MapEntry => e.born).Nodup)
    {Y X0 : List Blk} (hbox : (Bm, row 117 [.map (some bm)]) ∈ Y) (hmap : (bm, Obj.map es.toArray clock) ∈ Y) (I : List Int → List Blk → Prop)
    (hY : ∀ pre x X Z W, I pre X → pre.length < ks.length → Sat G W (X ++ (Y ++ Z)) → YieldAt F (n - 1) Tryz.prog l #[int x] W fun e W' => e = .returned (.bool true) ∧ ∃ X', I (pre ++ [x]) X' ∧ Sat G W' (X' ++ (Y ++ Z)))
    (W : World) (h0 : I [] X0) (hs : Sat G W (X0 ++ Y)) :
    CallsIn F n Tryz.prog 117 #[.func (.yield l) #[] #[], .pointer (some ⟨Bm, 0, none⟩)] W fun e W' => (∃ v, e = .returned v) ∧ ∃ ss X', ss.Perm ks ∧ I ss X' ∧ Sat G W' (X' ++ Y) := by
  refine callsIn_of_wp Tryz.func117 rfl h7 ?_ hro
  simp only [Tryz.ntmps117, List.size_toArray, List.length_cons, List.length_nil, Nat.reduceAdd, Nat.reduceSub, Array.replicate_succ, Array.replicate_zero, List.push_toArray, List.append_toArray, List.nil_append, List.cons_append]
  have hc0 : W.cell? ⟨Bm, 0, none⟩ = some (.map (some bm)) := cell_row (cs := [.map (some bm)]) (hs.get (List.mem_append_right _ hbox)) rfl
  have hT : (Tryz.prog).underlying 117 = some (.map 3 121) := by kernel_rfl
  have hrun := run_range_map W 117 _ _ bm es.toArray clock hT (hs.get (List.mem_append_right _ hmap))
  have hs1 : Sat G (W.alloc (.mapIter (some bm) clock #[] clock)) ((W.heap.size, iterO bm clock []) :: (X0 ++ Y)) := hs.alloc _
  gi_wp2_with (first
    | (gi_at_range; refine wpListIn_range_r _ rfl _ 117 rfl rfl hrun ?_)
    | gi_in)
  obtain ⟨r, hr⟩ : ∃ r, W.heap.size = r := ⟨_, rfl⟩
  rw [hr] at hs1
  simp only [hr]
  go_frame
  gi_loopw [3] (fun _ wr => ∃ (vis : List MapEntry) (pre : List Int) (X : List Blk), vis.Nodup ∧ (∀ e ∈ vis, e ∈ es) ∧ vis.map (·.key) = pre.map int ∧ I pre X ∧ Sat G wr ((r, iterO bm clock vis) :: (X ++ Y)))
    (fun _ wr => es.length - (match wr.heap[r]? with | some (.mapIter _ _ seen _) => seen.size | _ => 0))
  case atStart => exact ⟨[], [], X0, .nil, by simp, rfl, h0, hs1⟩
  case round =>
    obtain ⟨vis, pre, X, hvn, hve, hvk, hi, hsr⟩ := hrel
    have hlv : vis.length = pre.length := by simpa using congrArg List.length hvk
    have hle : es.length = ks.length := by simpa using congrArg List.length hks
    have hmemR : ∀ q ∈ Y, q ∈ X ++ Y := fun q hq => List.mem_append_right _ hq
    have hstep : (∃ W2, (Instr.next (ptr r) false 0).run Tryz.prog wr = .ok (.tuple #[.bool false]) W2 ∧ (∀ e ∈ es, e ∈ vis) ∧ W2 = wr) ∨
        (∃ W2 e x, (Instr.next (ptr r) false 0).run Tryz.prog wr = .ok (.tuple #[.bool true, int x, e.val]) W2 ∧ e ∈ es ∧ e ∉ vis ∧ e.key = int x ∧ Sat G W2 ((r, iterO bm clock (vis ++ [e])) :: (X ++ Y)) ∧ (Instr.entry (ptr r)).run Tryz.prog W2 = .ok (.tuple #[int x, e.val]) W2) := by
      have hh := next_r (k := fun v w' => (v = .tuple #[.bool false] ∧ (∀ e ∈ es, e ∈ vis) ∧ w' = wr) ∨ (∃ e x, v = .tuple #[.bool true, int x, e.val] ∧ e ∈ es ∧ e ∉ vis ∧ e.key = int x ∧ Sat G w' ((r, iterO bm clock (vis ++ [e])) :: (X ++ Y)))) (ty := 0) hsr (hmemR _ hmap) hb hnd hve (fun h1 _ => .inl ⟨rfl, h1, rfl⟩) (fun e he hne w' hs' => by
        obtain ⟨x, hx⟩ : ∃ x, e.key = int x := by
          have : e.key ∈ ks.map int := hks ▸ List.mem_map.2 ⟨e, he, rfl⟩
          obtain ⟨x, _, hx⟩ := List.mem_map.1 this
          exact ⟨x, hx.symm⟩
        exact .inr ⟨e, x, by rw [hx], he, hne, hx, hs'⟩)
      obtain ⟨v, W2, hrun, h | ⟨e, x, rfl, h1, h2, h3, h4⟩⟩ := hh
      · obtain ⟨rfl, h2, h3⟩ := h
        exact .inl ⟨W2, hrun, h2, h3⟩
      · have he := entry_r (k := fun v w' => v = .tuple #[int x, e.val] ∧ w' = W2) h4 (hmemR _ hmap) h1 hnd ⟨by rw [h3], rfl⟩
        obtain ⟨v2, W3, hr2, rfl, rfl⟩ := he
        exact .inr ⟨W3, e, x, hrun, h1, h2, h3, h4, hr2⟩
    rcases hstep with ⟨W2, hrn, hall, rfl⟩ | ⟨W2, e, x, hrn, he1, he2, hek, hs2, hent⟩
    · gi_wp2_with (first
        | (gi_at_next; refine wpListIn_next_r _ rfl _ rfl rfl hrn ?_)
        | gi_in)
      go_end0
      have hpm : vis.Perm es := (List.perm_ext_iff_of_nodup hvn ((List.pairwise_map.1 hnd).imp fun h e => h (congrArg _ e))).2 fun e => ⟨hve e, hall e⟩
      have hpk : (pre.map int).Perm (ks.map int) := by rw [← hvk, ← hks]; exact hpm.map _
      have hpk2 : pre.Perm ks := by
        have := hpk.map (fun v => match v with | .int _ x => x | _ => 0)
        rw [List.map_map, List.map_map] at this
        simpa [Function.comp_def] using this
      exact ⟨⟨_, rfl⟩, pre, X, hpk2, hi, hsr.tail⟩
    · have hlt : vis.length < es.length := by
        have := sub_len (l := e :: vis) (m := es) (List.nodup_cons.2 ⟨he2, hvn⟩) (fun y hy => by
          rcases List.mem_cons.1 hy with rfl | hy
          · exact he1
          · exact hve y hy)
        simp at this; omega
      obtain ⟨fn, tmps, assign, body, hy, hR⟩ := hY pre x X [(r, iterO bm clock (vis ++ [e]))] W2 hi (by omega) (hs2.perm (by refine perm_of_cnt fun a => ?_; simp only [cnt_app, cnt_cons, cnt_nil] at *; omega))
      gi_wp2_with (first
        | (gi_at_next; refine wpListIn_next_r _ rfl _ rfl rfl hrn ?_)
        | gi_in)
      refine hR.mono ?_
      rintro e' W3 ⟨rfl, X', hi', hs3⟩
      have hs4 := hs3.perm (H' := (r, iterO bm clock (vis ++ [e])) :: (X' ++ Y)) (by refine perm_of_cnt fun a => ?_; simp only [cnt_app, cnt_cons, cnt_nil] at *; omega)
      gi_wp2
      go_roundw
      case rel => exact ⟨vis ++ [e], pre ++ [x], X', List.nodup_append.2 ⟨hvn, by simp, fun a ha b hb => by simp at hb; subst hb; intro e'; subst e'; exact he2 ha⟩, fun y hy => by
        rcases List.mem_append.1 hy with hy | hy
        · exact hve y hy
        · simp at hy; subst hy; exact he1, by rw [List.map_append, List.map_append, hvk]; simp [hek], hi', hs4⟩
      case measure =>
        have h5 := hs4.get (b := r) (.head _)
        have h6 := hsr.get (b := r) (.head _)
        rw [h5, h6]
        simp only [iterO, List.size_toArray, List.length_map, List.length_append, List.length_cons, List.length_nil]
        exact Nat.sub_lt_sub_left hlt (Nat.lt_succ_self _)
/-- 'for k := range maps.Keys(m) { .. }', whose body is never left early. -/
theorem range_keys {g : Operand} {p1 : Tmp} {assign body : Code} {Q : Exit → Act → World → Prop} {a : Act} {W0 : World} {n Bm bm clock : Nat} {es : List MapEntry} {ks : List Int} {Y : List Blk} (hn : 3 ≤ n) (had : a.defers = [])
    (hg : a.eval g = .func (.func 117) #[] #[.pointer (some ⟨Bm, 0, none⟩)]) (hks : es.map (·.key) = ks.map int) (hb : ∀ e ∈ es, e.born < clock) (hnd : (es.map fun e : MapEntry => e.born).Nodup) (hbox : (Bm, row 117 [.map (some bm)]) ∈ Y) (hmap : (bm, Obj.map es.toArray clock) ∈ Y)
    (I : List Int → List Blk → Prop) {X0 : List Blk} (h0 : I [] X0) (hs : Sat G W0 (X0 ++ Y)) (a₁ : Int → Act)
    (hassign : ∀ (l : Nat) (x : Int) (W : World) (K : Act → World → Prop), K (a₁ x) W → assign.wpIn (Fence.wide.inRound l) (n - 1 - 1) Tryz.prog (Exit.then K (fun _ _ _ => False)) { tmps := ((#[p1] : Array Tmp).zip #[int x]).foldl (fun t (p, v) => t.setIfInBounds p v) a.tmps, defers := [] } W)
    (hbody : ∀ (l : Nat) (pre : List Int) (x : Int) (X Z : List Blk) (W : World), I pre X → pre.length < ks.length → Sat G W (X ++ (Y ++ Z)) → body.wpIn (Fence.wide.inRound l) (n - 1 - 1) Tryz.prog (fun e _ W' => e = .normal ∧ ∃ X', I (pre ++ [x]) X' ∧ Sat G W' (X' ++ (Y ++ Z))) (a₁ x) W)
    (hdone : ∀ (D : Nat) (ss : List Int) (X : List Blk) (W : World), ss.Perm ks → I ss X → Sat G W ((D, .deferred (some [])) :: (X ++ Y)) → Q .normal { a with defers := [{ target := .collected D, args := #[] }] } W) :
    (Code.rangeFunc g #[p1] assign body).wpIn Fence.wide n Tryz.prog Q a W0 := by
  refine wpIn_rangeFunc ?_
  intro fn hfn
  have hro : Fence.wide.round = none := rfl
  rw [hro]
  obtain ⟨rec, hrec⟩ : ∃ rec : LoopState → Option Code → Loop, rec = fun st pe => { state := st, pending := pe, fn, tmps := a.tmps, params := #[p1], assign, body, defers := W0.heap.size } := ⟨_, rfl⟩
  obtain ⟨W1, hW1⟩ : ∃ W1, (W0.alloc (.deferred (some []))).alloc (.loop (rec .ready none)) = W1 := ⟨_, rfl⟩
  have hs1 : Sat G W1 ((W0.heap.size + 1, .loop (rec .ready none)) :: (W0.heap.size, .deferred (some [])) :: (X0 ++ Y)) := by
    rw [← hW1]
    have := (hs.alloc (.deferred (some []))).alloc (.loop (rec .ready none))
    rwa [World.size_alloc] at this
  have eg : ∀ args w, (callFunc 117 args).run Tryz.prog w = .ok (.enter 117 args) w := enters_of Tryz.func117 (by kernel_rfl) rfl
  refine ⟨W0.heap.size + 1, [{ target := .collected W0.heap.size, args := #[] }], W1, { target := .fn (.func 117) #[.pointer (some ⟨Bm, 0, none⟩)], args := #[.func (.yield (W0.heap.size + 1)) #[] #[]] }, W1, 117,
    #[.func (.yield (W0.heap.size + 1)) #[] #[]] ++ #[.pointer (some ⟨Bm, 0, none⟩)], W1, ?_, ?_, fun _ _ => trivial, ?_, fun _ => by omega, ?_⟩
  · rw [← hW1, hrec]; exact run_enterLoop_outer _ _ _ _ _
  · simp only [resolve, hg]
    simp [go_sem]
  · simp [invoke, go_sem, eg]
  · have hround : ∀ pre x X Z W, I pre X → pre.length < ks.length → Sat G W (X ++ (((W0.heap.size + 1, .loop (rec .ready none)) :: (W0.heap.size, .deferred (some [])) :: Y) ++ Z)) → YieldAt Fence.wide (n - 1 - 1) Tryz.prog (W0.heap.size + 1) #[int x] W fun e W' => e = .returned (.bool true) ∧ ∃ X', I (pre ++ [x]) X' ∧ Sat G W' (X' ++ (((W0.heap.size + 1, .loop (rec .ready none)) :: (W0.heap.size, .deferred (some [])) :: Y) ++ Z)) := by
      intro pre x X Z W hi hlen hsW
      have hsW := hsW.perm (H' := (W0.heap.size + 1, .loop (rec .ready none)) :: (X ++ (Y ++ ((W0.heap.size, .deferred (some [])) :: Z)))) (by refine perm_of_cnt fun a => ?_; simp only [cnt_app, cnt_cons, cnt_nil] at *; omega)
      have hl := hsW.get (.head _)
      have hy := run_yield (P := Tryz.prog) (args := #[int x]) hl (by rw [hrec]; rfl)
      rw [hrec] at hy
      refine ⟨fn, _, assign, body, hy, roundIn_of_wpIn hfn ?_⟩
      refine hassign _ x W _ ?_
      refine ⟨_, run_beginRound hl (by rw [hrec]), ?_⟩
      have hs2 : Sat G (W.putObj (W0.heap.size + 1) (.loop { rec .ready none with state := .busy })) (X ++ (Y ++ ((W0.heap.size + 1, .loop { rec .ready none with state := .busy }) :: (W0.heap.size, .deferred (some [])) :: Z))) := (Sat.putObj hsW).perm (by refine perm_of_cnt fun a => ?_; simp only [cnt_app, cnt_cons, cnt_nil] at *; omega)
      refine wpIn_mono (hbody _ pre x X _ _ hi hlen hs2) ?_
      rintro e a3 W3 ⟨rfl, X', hi', hs3⟩
      have hs3 := hs3.perm (H' := (W0.heap.size + 1, .loop { rec .ready none with state := .busy }) :: (X' ++ (Y ++ ((W0.heap.size, .deferred (some [])) :: Z)))) (by refine perm_of_cnt fun a => ?_; simp only [cnt_app, cnt_cons, cnt_nil] at *; omega)
      have hr3 := run_endRound (P := Tryz.prog) none (hs3.get (.head _))
      refine ⟨_, _, hr3, rfl, X', hi', ?_⟩
      have := Sat.putObj (o' := .loop (rec .ready none)) hs3
      have := this.perm (H' := X' ++ (((W0.heap.size + 1, .loop (rec .ready none)) :: (W0.heap.size, .deferred (some [])) :: Y) ++ Z)) (by refine perm_of_cnt fun a => ?_; simp only [cnt_app, cnt_cons, cnt_nil] at *; omega)
      rw [hrec] at this ⊢
      exact this
    refine (Keys1_in Fence.wide (n - 1) trivial rfl (by omega) (W0.heap.size + 1) Bm bm clock es ks hks hb hnd (Y := (W0.heap.size + 1, .loop (rec .ready none)) :: (W0.heap.size, .deferred (some [])) :: Y) (.tail _ (.tail _ hbox)) (.tail _ (.tail _ hmap)) I hround W1 h0 (hs1.perm (by refine perm_of_cnt fun a => ?_; simp only [cnt_app, cnt_cons, cnt_nil] at *; omega))).mono ?_
    rintro e W2 ⟨⟨v, rfl⟩, ss, X, hp, hi, hs2⟩
    have hs2 := hs2.perm (H' := (W0.heap.size + 1, .loop (rec .ready none)) :: ((W0.heap.size, .deferred (some [])) :: (X ++ Y))) (by refine perm_of_cnt fun a => ?_; simp only [cnt_app, cnt_cons, cnt_nil] at *; omega)
    have hl := hs2.get (.head _)
    refine ⟨none, _, by have := run_endLoop (P := Tryz.prog) hl (by rw [hrec]; simp); rw [hrec] at this; exact this, ?_⟩
    rw [had, List.append_nil]
    exact hdone _ ss X _ hp hi (Sat.putObj hs2).tail
end
end Go.Proofs.YtemenmmekddjaaaGreatDoor
end
section
namespace Go.Proofs.YtemenmmekddjaaaGreatDoor
open Go Go.Proofs Go.Wx Go.W Go.RowKit Go.Shelf
variable {ω : Go.W.Origin}
attribute [local go_sem] Oper.semAt_some
section
variable {G H R Hb Hv P : List Blk} {w : World} {k : K} {b bb sb : Nat} {σ : Sto} {wv : Value}
set_option maxRecDepth 100000 in
set_option maxHeartbeats 4000000 in
theorem AppendSeq_keys {Bm bm clock : Nat} {es : List MapEntry} {ks : List Int} (hs : Sat G w H) (hks : es.map (·.key) = ks.map int) (hlen : ks.length < 65536) (hb : ∀ e ∈ es, e.born < clock) (hnd : (es.map fun e : MapEntry => e.born).Nodup) (hbox : (Bm, row 117 [.map (some bm)]) ∈ H) (hmap : (bm, Obj.map es.toArray clock) ∈ H)
    (hk : ∀ (v : Value) (ss : List Int) (Ho : List Blk) (w' : World), ss.Perm ks → W.Own 3 1 v (ss.map int) Ho → Sat G w' (Ho ++ H) → k v w') : call Tryz.prog w 174 [.slice none 0 0, .func (.func 117) #[] #[ptr Bm]] k := by
  show Calls Tryz.prog 174 #[.slice none 0 0, .func (.func 117) #[] #[ptr Bm]] w (Ret k)
  refine (callsIn_wide (n := 9)).1 ?_
  have hro : Fence.wide.round = none := rfl
  refine callsIn_of_wp_marks Tryz.func174 rfl trivial ?_ rfl
  simp only [Tryz.ntmps174, List.size_toArray, List.length_cons, List.length_nil, Nat.reduceAdd, Nat.reduceSub, Array.replicate_succ, Array.replicate_zero, List.push_toArray, List.append_toArray, List.nil_append, List.cons_append]
  have hs1 := hs.alloc (row 22 [Value.slice none 0 0])
  obtain ⟨i0, hi, hz0, hz1, hz2⟩ := info_parts (show ((Tryz.prog).info? 3).map (fun i => (i.zero, i.size, i.bytes)) = some (some (Value.int .i64 0), 1, 8) by kernel_rfl)
  have hu : (Tryz.prog).underlying 22 = some (.slice 3) := by kernel_rfl
  gi_wp2
  obtain ⟨B2, hB2⟩ : ∃ B2, w.heap.size = B2 := ⟨_, rfl⟩
  obtain ⟨W0, hW0⟩ : ∃ W0, w.alloc (row 22 [Value.slice none 0 0]) = W0 := ⟨_, rfl⟩
  have hW02 : w.alloc (.cells #[Value.slice none 0 0] 22) = W0 := hW0
  simp only [hW02, hB2]
  rw [hW0, hB2] at hs1
  refine range_keys (Bm := Bm) (bm := bm) (clock := clock) (es := es) (ks := ks) (by omega) rfl rfl hks hb hnd hbox hmap (fun pre X => ∃ v Hv, X = (B2, row 22 [v]) :: Hv ∧ W.Own 3 1 v (pre.map int) Hv) (X0 := [(B2, row 22 [.slice none 0 0])]) ⟨_, [], rfl, .nil⟩ hs1
    (fun x => { tmps := #[.slice none 0 0, .func (.func 117) #[] #[ptr Bm], Value.pointer (some ⟨B2, 0, none⟩), undef, Value.slice none 0 0, int x, .func (.func 117) #[] #[ptr Bm], int x, undef, undef, undef, undef, undef], defers := [] }) ?assign ?body ?done
  case assign =>
    intro l x W K hK
    gi_wp2
    exact hK
  case body =>
    rintro l pre x X Z W ⟨v, Hv, rfl, ho⟩ hlt hsW
    have hc2 : W.cell? ⟨B2, 0, none⟩ = some v := cell_row (cs := [v]) (hsW.get (.head _)) rfl
    have hs2 := hsW.alloc (row 3 [int x])
    gi_wp2_with (first
      | (gi_at_builtin; refine wpListIn_append_r _ rfl _ _ 22 22 3 3 i0 _ rfl hu hu hi hz0 rfl rfl ?_)
      | gi_in)
    try rw [hz1, hz2]
    have hs3 := hs2.perm (H' := Hv ++ ((W.heap.size, row 3 [int x]) :: (B2, row 22 [v]) :: (H ++ Z))) (by refine perm_of_cnt fun a => ?_; simp only [cnt_app, cnt_cons, cnt_nil] at *; omega)
    obtain ⟨va, vn, vc, rfl⟩ := ho.form
    refine app_r (T := 3) (size := 1) (zero := #[int 0]) hs3 ho .here (xa := some ⟨W.heap.size, 0, none⟩) (m := 1) (xc := 1) (ys := [int x]) ⟨rfl, fun j u hj => ?_⟩ (by simp [Value.oneCell']) (by decide) rfl (by decide) (by simp; omega) fun v' Hv' w' ho' hs' => ?_
    · rw [Addr.add_lit, Nat.zero_add]
      exact cell_row (cs := [int x]) (hs3.get (List.mem_append_right _ (.head _))) hj
    have hs4 := hs'.perm (H' := (B2, row 22 [Value.slice va vn vc]) :: (W.heap.size, row 3 [int x]) :: (Hv' ++ (H ++ Z))) (by refine perm_of_cnt fun a => ?_; simp only [cnt_app, cnt_cons, cnt_nil] at *; omega)
    have hc4 : w'.cell? ⟨B2, 0, none⟩ = some (Value.slice va vn vc) := cell_row (cs := [Value.slice va vn vc]) (hs4.get (.head _)) rfl
    have hf4 : w'.frozen? ⟨B2, 0, none⟩ = false := frozen_row (hs4.get (.head _))
    obtain ⟨va', vn', vc', rfl⟩ := ho'.form
    gi_wp2
    refine ⟨(B2, row 22 [Value.slice va' vn' vc']) :: Hv', ⟨_, Hv', rfl, ho'⟩, ?_⟩
    rw [setCell_row (cs := [Value.slice va vn vc]) (hs4.get (.head _))]
    have hs6 := hs4.set (b := B2) (o' := row 22 [Value.slice va' vn' vc']) .head
    have hs6 := (hs6.perm (H' := (W.heap.size, row 3 [int x]) :: (((B2, row 22 [Value.slice va' vn' vc']) :: Hv') ++ (H ++ Z))) (by refine perm_of_cnt fun a => ?_; simp only [cnt_app, cnt_cons, cnt_nil] at *; omega)).tail
    exact hs6
  case done =>
    rintro D ss X W hp ⟨v, Hv, rfl, ho⟩ hsW
    have hK := hsW.get (.head _)
    have hc2 : W.cell? ⟨B2, 0, none⟩ = some v := cell_row (cs := [v]) (hsW.get (.tail _ (.head _))) rfl
    gi_wp2
    refine ⟨by simp, .inl ⟨_, _, rfl, run_takeDeferred hK, ?_⟩⟩
    have hs5 : Sat G (W.putObj D (.deferred none)) ((D, .deferred none) :: (B2, row 22 [v]) :: (Hv ++ H)) := Sat.putObj hsW
    refine ⟨_, results_tmp rfl _ _ _, ?_⟩
    exact hk v ss Hv _ hp ho (hs5.tail.tail)
theorem Sorted_keys {Bm bm clock : Nat} {es : List MapEntry} {ks : List Int} (hs : Sat G w H) (hks : es.map (·.key) = ks.map int) (hlen : ks.length < 65536) (hb : ∀ e ∈ es, e.born < clock) (hnd : (es.map fun e : MapEntry => e.born).Nodup) (hbox : (Bm, row 117 [.map (some bm)]) ∈ H) (hmap : (bm, Obj.map es.toArray clock) ∈ H)
    (hk : ∀ (v : Value) (ss : List Int) (Ho : List Blk) (w' : World), ss.Perm ks → ss.Pairwise (· ≤ ·) → W.Own 3 1 v (ss.map int) Ho → Sat G w' (Ho ++ H) → k v w') : call Tryz.prog w 63 [.func (.func 117) #[] #[ptr Bm]] k := by
  refine b_slices_Sorted_int_walk ?_
  unfold b_slices_Sorted_int
  refine b_slices_Collect_int_walk ?_
  unfold b_slices_Collect_int
  refine AppendSeq_keys hs hks hlen hb hnd hbox hmap fun v ss Ho w hp ho hs => ?_
  refine slices_Sort hs ho .here (by rw [hp.length_eq]; exact hlen) fun Ho' w ho' hs => ?_
  exact hk v _ Ho' w ((sortL_perm ss).trans hp) (sortL_sorted ss) ho' hs
/-- the keys of a map, as a list. -/
theorem MapOf.ks {es : List MapEntry} {clock : Nat} {f : Int → Option Value} (h : MapOf es clock f) : ∃ ks : List Int, es.map (·.key) = ks.map int ∧ ks.Nodup ∧ ∀ x, x ∈ ks ↔ f x ≠ none := by
  have hex : ∀ (l : List MapEntry), (∀ e ∈ l, ∃ n, e.key = int n) → ∃ ks : List Int, l.map (·.key) = ks.map int := by
    intro l
    induction l with
    | nil => intro _; exact ⟨[], rfl⟩
    | cons e l ih =>
      intro hl
      obtain ⟨n, hn⟩ := hl e (by simp)
      obtain ⟨ks, hks⟩ := ih fun e he => hl e (by simp [he])
      exact ⟨n :: ks, by simp [hn, hks]⟩
  obtain ⟨ks, hks⟩ := hex es h.keys
  refine ⟨ks, hks, ?_, fun x => ?_⟩
  · have h1 : (ks.map int).Nodup := by rw [← hks]; exact h.nodup
    exact (List.pairwise_map.1 h1).imp fun hne e => hne (by rw [e])
  · constructor
    · intro hx hn
      have : int x ∈ es.map (·.key) := by rw [hks]; exact List.mem_map.2 ⟨x, hx, rfl⟩
      obtain ⟨e, he, hk⟩ := List.mem_map.1 this
      have := (h.look x e.val).2 ⟨e, he, hk, rfl⟩
      rw [hn] at this; cases this
    · intro hx
      cases hf : f x with
      | none => exact absurd hf hx
      | some v =>
        obtain ⟨e, he, hk, _⟩ := (h.look x v).1 hf
        have : int x ∈ ks.map int := by rw [← hks]; exact List.mem_map.2 ⟨e, he, hk⟩
        obtain ⟨y, hy, hxy⟩ := List.mem_map.1 this
        have : y = x := by simpa using hxy
        exact this ▸ hy
/-- the addresses of all pages. -/
def PagesL (σ : Sto) (l : List Int) : Prop := l.Pairwise (· < ·) ∧ ∀ a, a ∈ l ↔ σ.pg a ≠ none
theorem PagesL.uniq {σ' : Sto} {l l' : List Int} (h : PagesL σ l) (h' : PagesL σ' l') (he : ∀ a, σ.pg a ≠ none ↔ σ'.pg a ≠ none) : l = l' := by
  have hn : ∀ {l : List Int}, l.Pairwise (· < ·) → l.Nodup := fun h => h.imp fun h => by omega
  have hp : l.Perm l' := (List.perm_ext_iff_of_nodup (hn h.1) (hn h'.1)).2 fun a => by rw [h.2, h'.2, he]
  exact hp.eq_of_pairwise (le := (· ≤ ·)) (fun a b _ _ h1 h2 => by omega) (h.1.imp fun h => by omega) (h'.1.imp fun h => by omega)
theorem pages_Pages (hs : Sat G w H) (h : WldR G b bb sb σ wv P Hb) (hsel : Sel Hb H R) (hlen : ∀ D : List Int, D.Nodup → (∀ a ∈ D, σ.pg a ≠ none) → D.length < 65536)
    (hk : ∀ v l Ho w', PagesL σ l → W.Own 3 1 v (l.map int) Ho → Sat G w' (Ho ++ H) → k v w') : call Tryz.prog w 12 [ptr b] k := by
  refine b_pages_Store_Pages_walk ?_
  unfold b_pages_Store_Pages
  have hpm := hsel.perm
  cases h with
  | @mk mb clock es F Hk Hp hm hP hbk hsp hfit htop hwv =>
  have hs := hs.sel hsel
  refine nn_r (add_r (ld_r hs (.head _) rfl ?_))
  refine b_maps_Keys_map_int_pages_page_int_pages_page_walk ?_
  unfold b_maps_Keys_map_int_pages_page_int_pages_page
  refine box_r hs rfl fun Bm w hs => ?_
  obtain ⟨ks, hks, hkn, hkm⟩ := MapOf.ks hm
  have hkm' : ∀ a, a ∈ ks ↔ σ.pg a ≠ none := fun a => by
    rw [hkm]
    unfold mapF
    cases σ.pg a <;> simp
  refine Sorted_keys hs hks (hlen ks hkn fun a ha => (hkm' a).1 ha) hm.born hm.bnodup (.head _) (.tail _ (.tail _ (.head _))) fun v ss Ho w hp hsd ho hs => ?_
  refine hk v ss Ho w ⟨?_, fun a => by rw [hp.mem_iff, hkm']⟩ ho ((hs.perm (H' := (Bm, row 117 [.map (some mb)]) :: (Ho ++ H)) (by refine perm_of_cnt fun a => ?_; have q0 := cnt_perm hpm a; simp only [cnt_app, cnt_cons, cnt_nil] at *; omega)).tail)
  have hsn : ss.Nodup := hp.symm.nodup_iff.1 hkn
  exact List.pairwise_iff_getElem.2 fun i j hi hj hij => by
    have h1 := List.pairwise_iff_getElem.1 hsd i j hi hj hij
    have h2 := List.pairwise_iff_getElem.1 hsn i j hi hj hij
    omega
end
end Go.Proofs.YtemenmmekddjaaaGreatDoor
end
