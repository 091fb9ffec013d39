/- DERIVED: THE SHELF's CONTRACTS AT THIS DUMP, IN PLAIN WORDS (tools/lay-plain.mjs out of 'YtemenmmekddjaaaGreatDoorShelf.lean', which tools/lay-shelf.mjs wrote): THE SAME DECLARATIONS UNDER THE SAME NAMES: 'import', 'namespace', 'open', 'def', 'theorem' AND NOTHING ELSE: no command of the shelf's: FOR A HAND-IN. Each laying: the table of numbers ('.._ren') and one theorem, a field a fact of the dump's own or the kernel's comparison; each contract: ONE APPLICATION. What slices.Sort does with a slice of one's own; a walk through a map. No condition. -/
import Derived.Shelf.SortM.Plain
import Derived.Shelf.SortM.SortNone
import Derived.Ground.SlgmProg
import Derived.Test.YtemenmmekddjaaaGreatDoorProg
import Derived.Maps.RangeRun
import Derived.Test.YtemenmmekddjaaaGreatDoorJ07
import Derived.Test.YtemenmmekddjaaaGreatDoorJ15
set_option linter.all false
set_option linter.unusedVariables false
set_option linter.unusedSimpArgs false
set_option linter.unnecessarySimpa false
set_option linter.unusedSectionVars false
set_option linter.constructorNameAsVariable false
section
namespace Go.Proofs
open Go.Shelf
def Tryz.sortA_ren : Go.Shelf.Ren := ⟨fun | 5 => 116 | 8 => 176 | 7 => 175 | 19 => 216 | 20 => 217 | 10 => 208 | 11 => 209 | 12 => 210 | 13 => 211 | 14 => 212 | 15 => 213 | 16 => 206 | 17 => 214 | 18 => 215 | 30 => 234 | 31 => 235 | 32 => 236 | 33 => 237 | 34 => 238 | 35 => 233 | 40 => 249 | n => n, fun | 23 => 22 | 25 => 3 | 3 => 3 | 32 => 258 | 22 => 22 | 0 => 0 | 44 => 299 | 46 => 222 | 4 => 4 | 36 => 293 | 35 => 292 | 41 => 111 | 5 => 5 | 9 => 9 | 53 => 313 | 57 => 317 | 63 => 325 | 64 => 74 | n => n, fun | n => n⟩
theorem Tryz.sortA : Go.Proofs.SlLaysM.n5 Tryz.prog Tryz.sortA_ren := {
  mixed := by kernel_rfl
  f5 := ⟨Tryz.f116.name, by decide, Tryz.func116.trans (congrArg some (by kernel_rfl))⟩
  f7 := ⟨Tryz.f175.name, by decide, Tryz.func175.trans (congrArg some (by kernel_rfl))⟩
  f8 := Tryz.func176.trans (congrArg some (by kernel_rfl))
  f10 := ⟨Tryz.f208.name, by decide, Tryz.func208.trans (congrArg some (by kernel_rfl))⟩
  f11 := ⟨Tryz.f209.name, by decide, Tryz.func209.trans (congrArg some (by kernel_rfl))⟩
  f12 := ⟨Tryz.f210.name, by decide, Tryz.func210.trans (congrArg some (by kernel_rfl))⟩
  f13 := ⟨Tryz.f211.name, by decide, Tryz.func211.trans (congrArg some (by kernel_rfl))⟩
  f14 := ⟨Tryz.f212.name, by decide, Tryz.func212.trans (congrArg some (by kernel_rfl))⟩
  f15 := ⟨Tryz.f213.name, by decide, Tryz.func213.trans (congrArg some (by kernel_rfl))⟩
  f16 := ⟨Tryz.f206.name, by decide, Tryz.func206.trans (congrArg some (by kernel_rfl))⟩
  f17 := ⟨Tryz.f214.name, by decide, Tryz.func214.trans (congrArg some (by kernel_rfl))⟩
  f18 := ⟨Tryz.f215.name, by decide, Tryz.func215.trans (congrArg some (by kernel_rfl))⟩
  f19 := Tryz.func216.trans (congrArg some (by kernel_rfl))
  f20 := Tryz.func217.trans (congrArg some (by kernel_rfl))
  f30 := ⟨Tryz.f234.name, by decide, Tryz.func234.trans (congrArg some (by kernel_rfl))⟩
  f31 := Tryz.func235.trans (congrArg some (by kernel_rfl))
  f32 := Tryz.func236.trans (congrArg some (by kernel_rfl))
  f33 := ⟨Tryz.f237.name, by decide, Tryz.func237.trans (congrArg some (by kernel_rfl))⟩
  f34 := ⟨Tryz.f238.name, by decide, Tryz.func238.trans (congrArg some (by kernel_rfl))⟩
  f35 := ⟨Tryz.f233.name, by decide, Tryz.func233.trans (congrArg some (by kernel_rfl))⟩
  f40 := ⟨Tryz.f249.name, by decide, Tryz.func249.trans (congrArg some (by kernel_rfl))⟩
  t0 := Tryz.underlying0
  a0 := Tryz.isAgg0
  z0 := Tryz.sizeOf0
  v0 := Tryz.zeroValue0
  t3 := Tryz.underlying3
  a3 := Tryz.isAgg3
  z3 := Tryz.sizeOf3
  v3 := Tryz.zeroValue3
  t4 := Tryz.underlying4
  a4 := Tryz.isAgg4
  z4 := Tryz.sizeOf4
  v4 := Tryz.zeroValue4
  t5 := Tryz.underlying5
  a5 := Tryz.isAgg5
  z5 := Tryz.sizeOf5
  v5 := Tryz.zeroValue5
  t9 := Tryz.underlying9
  a9 := Tryz.isAgg9
  z9 := Tryz.sizeOf9
  v9 := Tryz.zeroValue9
  t22 := Tryz.underlying22
  a22 := Tryz.isAgg22
  z22 := Tryz.sizeOf22
  v22 := Tryz.zeroValue22
  t23 := Tryz.underlying22
  a23 := Tryz.isAgg22
  z23 := Tryz.sizeOf22
  v23 := Tryz.zeroValue22
  t25 := Tryz.underlying3
  a25 := Tryz.isAgg3
  z25 := Tryz.sizeOf3
  v25 := Tryz.zeroValue3
  t32 := Tryz.underlying258
  a32 := Tryz.isAgg258
  z32 := Tryz.sizeOf258
  v32 := Tryz.zeroValue258
  t35 := Tryz.underlying292
  a35 := Tryz.isAgg292
  z35 := Tryz.sizeOf292
  v35 := Tryz.zeroValue292
  t36 := Tryz.underlying293
  a36 := Tryz.isAgg293
  z36 := Tryz.sizeOf293
  v36 := Tryz.zeroValue293
  t41 := Tryz.underlying111
  a41 := Tryz.isAgg111
  z41 := Tryz.sizeOf111
  v41 := Tryz.zeroValue111
  t44 := Tryz.underlying299
  a44 := Tryz.isAgg299
  z44 := Tryz.sizeOf299
  v44 := Tryz.zeroValue299
  t46 := Tryz.underlying222
  a46 := Tryz.isAgg222
  z46 := Tryz.sizeOf222
  v46 := Tryz.zeroValue222
  t53 := Tryz.underlying313
  a53 := Tryz.isAgg313
  z53 := Tryz.sizeOf313
  v53 := Tryz.zeroValue313
  t57 := Tryz.underlying317
  a57 := Tryz.isAgg317
  z57 := Tryz.sizeOf317
  v57 := Tryz.zeroValue317
  t63 := Tryz.underlying325
  a63 := Tryz.isAgg325
  z63 := Tryz.sizeOf325
  v63 := Tryz.zeroValue325
  t64 := Tryz.underlying74
  a64 := Tryz.isAgg74
  z64 := Tryz.sizeOf74
  v64 := Tryz.zeroValue74 }
end Go.Proofs
end
section
namespace Go.Proofs.YtemenmmekddjaaaGreatDoor
open Go Go.Wx Go.W
variable {ω : Go.W.Origin}
def sortL (l : List Int) : List Int := l.mergeSort fun x y => decide (x ≤ y)
theorem sortL_perm (l : List Int) : (sortL l).Perm l := List.mergeSort_perm _ _
theorem sortL_sorted (l : List Int) : (sortL l).Pairwise (· ≤ ·) := by
  have := List.pairwise_mergeSort (le := fun x y : Int => decide (x ≤ y)) (by intro a b c; simp; omega) (by intro a b; simp; omega) l
  exact this.imp fun h => by simpa using h
section
variable {G H R Hv : List Blk} {w : World} {k : K}
theorem sat_putRow {b n : Nat} {T : TypeId} {l m : List Int} {sp : List Value} {os : Array Obj} (hs : Sat G w ((b, row T (l.map int ++ sp)) :: R)) (hl : m.length = l.length) :
    Sat G (Go.Sort.grow (Go.Sort.putRow (Value.int .i64) (Go.Sort.ahead w n) b 0 m.toArray) os) ((b, row T (m.map int ++ sp)) :: R) := by
  have hsz : (Go.Sort.putRow (Value.int .i64) (Go.Sort.ahead w n) b 0 m.toArray).heap.size = w.heap.size := by rw [Go.Sort.size_putRow]; rfl
  refine ⟨by simpa using hs.nodup, fun p hp => ?_, hs.kept⟩
  have hmem : ∀ q ∈ G ++ (b, row T (l.map int ++ sp)) :: R, q.1 < w.heap.size := fun q hq => (Array.getElem?_eq_some_iff.1 (hs.here q hq)).1
  have hb : b < w.heap.size := hmem (b, row T (l.map int ++ sp)) (by simp)
  have hpl : p.1 < w.heap.size := by
    rcases List.mem_append.1 hp with h | h
    · exact hmem p (List.mem_append_left _ h)
    · rcases List.mem_cons.1 h with rfl | h
      · exact hb
      · exact hmem p (List.mem_append_right _ (.tail _ h))
  show ((Go.Sort.putRow (Value.int .i64) (Go.Sort.ahead w n) b 0 m.toArray).heap ++ os)[p.1]? = some p.2
  rw [Array.getElem?_append_left (by rw [hsz]; exact hpl)]
  show (w.heap.modify b (Go.Sort.onCells (Go.Sort.putCells (Value.int .i64) 0 m.toArray)))[p.1]? = some p.2
  rw [Array.getElem?_modify]
  by_cases e : b = p.1
  · have hpe : p = (b, row T (m.map int ++ sp)) := by
      rcases List.mem_append.1 hp with h | h
      · exfalso
        have h1 := hs.nodup
        rw [List.map_append, List.nodup_append] at h1
        exact h1.2.2 p.1 (List.mem_map.2 ⟨p, h, rfl⟩) b (by simp) e.symm
      · rcases List.mem_cons.1 h with h | h
        · exact h
        · exfalso
          have h1 := hs.nodup
          rw [List.map_append, List.nodup_append] at h1
          have h2 := h1.2.1
          rw [List.map_cons, List.nodup_cons] at h2
          exact h2.1 (List.mem_map.2 ⟨p, h, e.symm⟩)
    rw [if_pos e, hpe]
    have h0 := hs.here (b, row T (l.map int ++ sp)) (by simp)
    simp only at h0
    rw [h0]
    simp only [Option.map_some, Go.Sort.onCells]
    congr 2
    apply Array.ext_getElem?
    intro i
    unfold Go.Sort.putCells
    simp only [Array.getElem?_mapIdx, List.getElem?_toArray, Nat.zero_add, Nat.zero_le, true_and, List.size_toArray, Nat.sub_zero]
    by_cases hi : i < l.length
    · rw [List.getElem?_append_left (by simpa using hi), List.getElem?_append_left (by simp; omega)]
      simp [hi, hl, show i < m.length by omega]
    · rw [List.getElem?_append_right (by simp; omega), List.getElem?_append_right (by simp; omega)]
      simp [hl, hi]
  · rw [if_neg e]
    have : p ∈ G ++ (b, row T (l.map int ++ sp)) :: R := by
      rcases List.mem_append.1 hp with h | h
      · exact List.mem_append_left _ h
      · rcases List.mem_cons.1 h with rfl | h
        · exact absurd rfl e
        · exact List.mem_append_right _ (.tail _ h)
    exact hs.here p this
theorem slices_Sort {v : Value} {l : List Int} (hs : Sat G w H) (ho : W.Own 3 1 v (l.map int) Hv) (hsel : Sel Hv H R) (hl : l.length < 65536)
    (hk : ∀ Hv' w', W.Own 3 1 v ((sortL l).map int) Hv' → Sat G w' (Hv' ++ R) → k (.tuple #[]) w') : call Tryz.prog w 116 [v] k := by
  have hs := hs.sel hsel
  generalize hx : l.map int = xs at ho
  cases ho with
  | nil =>
    have : l = [] := by simpa using hx
    subst this
    refine Calls.mono (AnyM.slices_Sort_int_none Tryz.sortA none 0 w) fun e w' he => ?_
    obtain ⟨rfl, rfl⟩ := he
    have e0 : sortL [] = [] := by simp [sortL]
    exact hk [] w' (by rw [e0]; exact .nil) hs
  | @some b n c xs sp hn hc =>
    subst hx
    have hn' : l.length = n := by simpa using hn
    subst hn'
    have hcell : ∀ j (h : j < l.length), w.cell? ⟨b, j, none⟩ = some (int l[j]) := fun j h => cell_row (hs.get (List.Mem.head _)) (by rw [List.getElem?_append_left (by simpa using h)]; simp [h])
    refine Calls.mono (AnyM.slices_Sort_int Tryz.sortA b 0 c l w (fun j hj => ?_) (hs.lt (p := (b, row 3 (l.map int ++ sp))) (by simp)) (by omega)) fun e w' he => ?_
    · have hj' : j < l.length := by simpa using hj
      refine ⟨?_, frozen_row (hs.get (List.Mem.head _))⟩
      rw [Nat.zero_add, hcell j hj']
      have : (l.toArray)[j]! = l[j] := by simp [hj']
      rw [this]
    · obtain ⟨rfl, n, os, rfl⟩ := he
      have hlen : (sortL l).length = l.length := (sortL_perm l).length_eq
      have := sat_putRow (n := n) (m := sortL l) (os := os) hs hlen
      exact hk [(b, row 3 ((sortL l).map int ++ sp))] _ (.some (by simpa using hlen) (by rw [← hc]; simp [hlen])) this
/-! ### a walk through a map -/
/-- the iterator, when these entries were seen. -/
def iterO (bm clock : Nat) (vis : List MapEntry) : Obj := .mapIter (some bm) clock (vis.map fun e : MapEntry => e.born).toArray clock
theorem range_r {T kt et : TypeId} {bm clock : Nat} {es : List MapEntry} (hT : (Tryz.prog).underlying T = some (.map kt et)) (hs : Sat G w H) (hm : (bm, Obj.map es.toArray clock) ∈ H) (hk : ∀ r w', Sat G w' ((r, iterO bm clock []) :: H) → k (ptr r) w') : raw Tryz.prog w (Instr.range T (.map (some bm))) k := by
  refine ⟨_, _, run_range_map w T kt et bm es.toArray clock hT (hs.get hm), ?_⟩
  exact hk _ _ (hs.alloc _)
theorem next_r {bm clock r : Nat} {ty : TypeId} {es vis : List MapEntry} (hs : Sat G w ((r, iterO bm clock vis) :: H)) (hm : (bm, Obj.map es.toArray clock) ∈ H) (hb : ∀ e ∈ es, e.born < clock) (hnd : (es.map fun e : MapEntry => e.born).Nodup) (hv : ∀ e ∈ vis, e ∈ es)
    (h0 : (∀ e ∈ es, e ∈ vis) → Sat G w ((r, iterO bm clock vis) :: H) → k (.tuple #[.bool false]) w)
    (hk : ∀ e ∈ es, e ∉ vis → ∀ w', Sat G w' ((r, iterO bm clock (vis ++ [e])) :: H) → k (.tuple #[.bool true, e.key, e.val]) w') : raw Tryz.prog w (Instr.next (ptr r) false ty) k := by
  have hr := hs.get (b := r) (.head _)
  have hbm := hs.get (.tail _ hm)
  have hmem : ∀ e, e ∈ (leftOf es.toArray (vis.map fun e : MapEntry => e.born).toArray).toList ↔ e ∈ es ∧ e.born ∉ vis.map fun e : MapEntry => e.born := by
    intro e
    unfold leftOf
    simp
  rcases run_next_at (P := Tryz.prog) w ty r bm clock clock (vis.map fun e : MapEntry => e.born).toArray es.toArray clock hr hbm (by simpa using hb) (Nat.le_refl _) with ⟨hz, hrun⟩ | ⟨e, he, w1, hw1, hrun⟩
  · refine ⟨_, _, hrun, h0 (fun e he => ?_) hs⟩
    apply Classical.byContradiction
    intro hne
    have hlt : e ∈ (leftOf es.toArray (vis.map fun e : MapEntry => e.born).toArray).toList := (hmem e).2 ⟨he, fun hin => hne (by
      obtain ⟨e', h1, h2⟩ := List.mem_map.1 hin
      have h3 := hv e' h1
      have : e' = e := by
        obtain ⟨i, hi, rfl⟩ := List.getElem_of_mem h3
        obtain ⟨j, hj, rfl⟩ := List.getElem_of_mem he
        have hp := List.pairwise_iff_getElem.1 (List.pairwise_map.1 hnd)
        rcases Nat.lt_trichotomy i j with hlt | heq | hlt
        · exact absurd h2 (hp i j hi hj hlt)
        · subst heq; rfl
        · exact absurd h2.symm (hp j i hj hi hlt)
      exact this ▸ h1)⟩
    have : (leftOf es.toArray (vis.map fun e : MapEntry => e.born).toArray).toList = [] := by
      apply List.eq_nil_of_length_eq_zero
      simpa using hz
    rw [this] at hlt
    simp at hlt
  · obtain ⟨h1, h2⟩ := (hmem e).1 he
    refine ⟨_, _, hrun, hk e h1 (fun hin => h2 (List.mem_map.2 ⟨e, hin, rfl⟩)) _ ?_⟩
    have hs1 : Sat G w1 ((r, iterO bm clock vis) :: H) := by
      rcases hw1 with rfl | rfl
      · exact hs
      · exact hs.of_heap rfl
    have h3 := hs1.set (b := r) (o' := iterO bm clock (vis ++ [e])) .head
    have e1 : iterO bm clock (vis ++ [e]) = .mapIter (some bm) clock ((vis.map fun e : MapEntry => e.born).toArray.push e.born) clock := by
      unfold iterO; simp
    rw [e1] at h3
    rw [e1]
    exact h3
theorem entry_r {bm clock r : Nat} {es vis : List MapEntry} {e : MapEntry} (hs : Sat G w ((r, iterO bm clock (vis ++ [e])) :: H)) (hm : (bm, Obj.map es.toArray clock) ∈ H) (he : e ∈ es) (hnd : (es.map fun e : MapEntry => e.born).Nodup) (hk : k (.tuple #[e.key, e.val]) w) : raw Tryz.prog w (Instr.entry (ptr r)) k := by
  have hr := hs.get (b := r) (.head _)
  have hbm := hs.get (.tail _ hm)
  have e1 : iterO bm clock (vis ++ [e]) = .mapIter (some bm) clock ((vis.map fun e : MapEntry => e.born).toArray.push e.born) clock := by
    unfold iterO; simp
  rw [e1] at hr
  exact ⟨_, _, run_entry_at w r bm clock (vis.map fun e : MapEntry => e.born).toArray es.toArray clock e hr hbm (by simpa using he) (by simpa using hnd), hk⟩
end
end Go.Proofs.YtemenmmekddjaaaGreatDoor
end
