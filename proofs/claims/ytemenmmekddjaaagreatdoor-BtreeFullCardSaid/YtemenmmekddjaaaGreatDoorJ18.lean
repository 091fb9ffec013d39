/- What slices.Insert, Delete and Replace do with pairs of a slice of one's own. No condition. What slices.Replace does with pairs of a slice of one's own. No condition. -/
import Derived.Lib.Overlaps
import Derived.KernelRfl
import Derived.Test.YtemenmmekddjaaaGreatDoorJ07
import Derived.Test.YtemenmmekddjaaaGreatDoorJ15
import Derived.Test.YtemenmmekddjaaaGreatDoorJ16
set_option linter.all false
set_option linter.unusedVariables false
set_option linter.unusedSimpArgs false
set_option linter.unnecessarySimpa false
set_option linter.unusedSectionVars false
set_option linter.constructorNameAsVariable false
section
namespace Go.Proofs.YtemenmmekddjaaaGreatDoor
open Go Go.Wx Go.W
variable {ω : Go.W.Origin}
section
variable {G H R Hb Hv : List Blk} {w : World} {k : K}
theorem sat_apart {b1 b2 : Nat} {o1 o2 : Obj} (hs : Sat G w ((b1, o1) :: H)) (h : (b2, o2) ∈ H) : b1 ≠ b2 := by
  have h2 := hs.nodup
  rw [List.map_append, List.nodup_append] at h2
  have h3 := h2.2.1
  rw [List.map_cons, List.nodup_cons] at h3
  intro e; subst e
  exact h3.1 (List.mem_map.2 ⟨_, h, rfl⟩)
theorem does_r {P : Program} {s : Sem Next} {v : Value} {w' : World} (h : s.run P w = .ok (.value v) w') (hk : k v w') : does P w s k := by
  show Does P s k w
  unfold Does
  rw [h]
  exact hk
theorem overlaps_pairs {b1 o1 n1 c1 b2 o2 n2 c2 : Nat} {T1 T2 : TypeId} {cs1 cs2 : List Value} (hs : Sat G w H) (m1 : (b1, row T1 cs1) ∈ H) (m2 : (b2, row T2 cs2) ∈ H) (hne : b1 ≠ b2) (hpos : cs2 ≠ []) :
    (callFunc 202 [.slice (some ⟨b1, o1, none⟩) n1 c1, .slice (some ⟨b2, o2, none⟩) n2 c2].toArray).run Tryz.prog w = .ok (.value (.bool false)) w := by
  have hz : ∀ w, (Go.sizeOf 151).run Tryz.prog w = .ok 2 w := fun w => by kernel_rfl
  have ht : (Tryz.prog).underlying 135 = some (.slice 151) := by kernel_rfl
  rw [run_callFunc_extern Tryz.func202 (by kernel_rfl) (by kernel_rfl) (by kernel_rfl) (e := Extern.SlicesOverlaps.overlaps #[135, 135] #[4]) (by kernel_rfl)]
  have h1 := hs.get m1
  have h2 := hs.get m2
  rw [show [Value.slice (some ⟨b1, o1, none⟩) n1 c1, .slice (some ⟨b2, o2, none⟩) n2 c2].toArray = #[.slice (some ⟨b1, o1, none⟩) n1 c1, .slice (some ⟨b2, o2, none⟩) n2 c2] from rfl,
    Lib.run_overlaps_apart w 135 4 151 ht 2 hz ⟨b1, o1, none⟩ ⟨b2, o2, none⟩ n1 c1 n2 c2 hne T1 T2 cs1.length cs2.length (by simp [World.shape?, h1]) (by simp [World.shape?, h2]) (by
      intro e; exact hpos (by simpa using e)) (frozen_row h1) (frozen_row h1)]
  rfl
def prs (l : List Pr) : List Value := l.flatMap fun e => [int e.1, int e.2]
theorem prs1 (e : Pr) : prs [e] = [int e.1, int e.2] := rfl
theorem prs1_len (e : Pr) : (prs [e]).length = 2 := rfl
theorem prs_len (l : List Pr) : (prs l).length = l.length * 2 := flat_len fun _ _ => rfl
theorem prs_one (l : List Pr) : ∀ y ∈ prs l, y.oneCell' = true := by
  intro y hy
  obtain ⟨e, _, h⟩ := List.mem_flatMap.1 hy
  simp at h
  rcases h with rfl | rfl <;> rfl
theorem prs_app (l m : List Pr) : prs (l ++ m) = prs l ++ prs m := by simp [prs]
theorem prs_take (l : List Pr) : ∀ (i : Nat), (prs l).take (i * 2) = prs (l.take i) := by
  induction l with
  | nil => intro i; simp [prs]
  | cons e l ih =>
    intro i
    cases i with
    | zero => simp [prs]
    | succ i =>
      rw [show (i + 1) * 2 = i * 2 + 1 + 1 by omega]
      simp [prs] at ih ⊢
      exact ih i
theorem prs_drop (l : List Pr) : ∀ (i : Nat), (prs l).drop (i * 2) = prs (l.drop i) := by
  induction l with
  | nil => intro i; simp [prs]
  | cons e l ih =>
    intro i
    cases i with
    | zero => simp [prs]
    | succ i =>
      rw [show (i + 1) * 2 = i * 2 + 1 + 1 by omega]
      simp [prs] at ih ⊢
      exact ih i
/-- a slice in a block, as one of one's own. -/
theorem own_of {T : TypeId} {b n c : Nat} {l : List Pr} {sp cs : List Value} (hcs : cs = prs l ++ sp) (hn : l.length = n) (hc : cs.length = c * 2) : Own T 2 (.slice (some ⟨b, 0, none⟩) n c) (prs l) [(b, row T cs)] := by
  subst hcs
  exact .some (by rw [prs_len, hn]) hc
theorem own_pairs {T : TypeId} {v : Value} {l : List Pr} (h : Own T 2 v (prs l) Hv) (hl : l ≠ []) : ∃ b c sp, v = .slice (some ⟨b, 0, none⟩) l.length c ∧ Hv = [(b, row T (prs l ++ sp))] ∧ (prs l ++ sp).length = c * 2 := by
  generalize hx : prs l = xs at h
  cases h with
  | nil =>
    have := prs_len l
    rw [hx] at this
    cases l with
    | nil => exact absurd rfl hl
    | cons _ _ => simp at this
  | @some b n c xs sp hn hc =>
    subst hx
    have : l.length = n := by rw [prs_len] at hn; omega
    subst this
    exact ⟨b, c, sp, rfl, rfl, hc⟩
theorem cells_at {b o m c : Nat} {T : TypeId} {cs ys : List Value} (hs : Sat G w H) (hm : (b, row T cs) ∈ H) (hy : (cs.drop o).take (m * 2) = ys) (hl : o + m * 2 ≤ cs.length) : Cells w 2 (.slice (some ⟨b, o, none⟩) m c) ys := by
  subst hy; exact row_cells hs hm hl
theorem three {α : Type} (l : List α) (a b : Nat) : l = l.take a ++ (l.drop a).take b ++ (l.drop a).drop b := by
  rw [List.append_assoc, List.take_append_drop, List.take_append_drop]
/-- one pair put in at a place. -/
theorem slices_Insert {l : List Pr} {e : Pr} {v : Value} {i b2 c2 : Nat} {T2 : TypeId} (hs : Sat G w H) (ho : Own 151 2 v (prs l) Hv) (hsel : Sel Hv H R) (hi : i ≤ l.length) (hl0 : l ≠ []) (hl : l.length < 65536) (hv : (b2, row T2 (prs [e])) ∈ R)
    (hk : ∀ v' Hv' w', Own 151 2 v' (prs (l.take i ++ [e] ++ l.drop i)) Hv' → Sat G w' (Hv' ++ R) → k v' w') : call Tryz.prog w 165 [v, int i, .slice (some ⟨b2, 0, none⟩) 1 c2] k := by
  refine b_slices_Insert_node_Pair_node_Pair_walk ?_
  unfold b_slices_Insert_node_Pair_node_Pair
  have hs := hs.sel hsel
  obtain ⟨b, c, sp, rfl, rfl, hc⟩ := own_pairs ho hl0
  have hlen : (prs l).length = l.length * 2 := prs_len l
  have hne : b ≠ b2 := sat_apart hs hv
  rw [List.length_append, prs_len] at hc
  have hnc : l.length ≤ c := by omega
  have hone := prs_one [e]
  have hone2 := prs_one (l.drop i)
  refine cut_lo hi (len_r (bin_eql (Br_eq (fun h => by omega) (fun _ => len_r (bin_eql (Br_eq (fun h => ?_) (fun h => ?_)))))))
  · obtain rfl : i = l.length := by omega
    refine app_r hs ho .here (cells_at hs (.tail _ hv) (ys := prs [e]) rfl (by simp only [List.length_append, prs_len, List.length_take, List.length_drop, List.length_cons, List.length_nil]; omega)) (prs_one _) (by decide) rfl (by decide) (by simp only [List.length_append, prs_len, List.length_take, List.length_drop, List.length_cons, List.length_nil]; omega) fun v' Hv' w ho hs => ?_
    rw [← prs_app] at ho
    exact hk _ _ _ (by simpa using ho) hs
  have hi' : i < l.length := by omega
  have hti : (prs (l.take i)).length = i * 2 := by rw [prs_len]; simp; omega
  have hdl : (prs (l.drop i)).length = (l.length - i) * 2 := by rw [prs_len]; simp
  have hsplit : prs l ++ sp = prs (l.take i) ++ prs (l.drop i) ++ sp := by rw [← prs_app, List.take_append_drop]
  have hsrc2 : ∀ {w' : World} {H' : List Blk}, Sat G w' H' → (b, row 151 (prs l ++ sp)) ∈ H' → ∀ c', Cells w' 2 (.slice (some ⟨b, i * 2, none⟩) (l.length - i) c') (prs (l.drop i)) := fun hs hm c' => by
    refine cells_at hs hm ?_ (by simp only [List.length_append, prs_len, List.length_take, List.length_drop, List.length_cons, List.length_nil]; omega)
    rw [hsplit, List.append_assoc, List.drop_left' hti, List.take_left' hdl]
  refine bin_add (by omega) (by omega) (cap_r (bin_gtr (Br_d (fun h => ?_) (fun h => ?_))))
  · have h : c < l.length + 1 := by omega
    refine cut_hi (by omega) (bin_add (by omega) (by omega) (bin_sub (by omega) (by omega) ?_))
    rw [show (l.length : Int) + ((1 : Nat) : Int) - i = ((l.length + 1 - i : Nat) : Int) by omega]
    refine appZ_new hs (.head _) (by simp only [List.length_append, prs_len, List.length_take, List.length_drop, List.length_cons, List.length_nil]; omega) (by omega) rfl (by decide) (by omega) fun b' c' w hc' hs => ?_
    rw [show i + (l.length + 1 - i) = l.length + 1 by omega] at hc' hs ⊢
    have hrow : List.take (i * 2) (List.drop 0 (prs l ++ sp)) = prs (l.take i) := by
      rw [List.drop_zero, hsplit, List.append_assoc, List.take_left' hti]
    rw [hrow, List.append_assoc] at hs
    have hzl : ((zeroRow (l.length + 1 - i) (#[Value.int .i64 0, Value.int .i64 0] : Array Value).toList).toList ++ (zeroRow (c' - (l.length + 1)) (#[Value.int .i64 0, Value.int .i64 0] : Array Value).toList).toList).length = (c' - i) * 2 := by
      rw [List.length_append, zeroRow_length, zeroRow_length]
      show (l.length + 1 - i) * 2 + (c' - (l.length + 1)) * 2 = _
      omega
    generalize ((zeroRow (l.length + 1 - i) (#[Value.int .i64 0, Value.int .i64 0] : Array Value).toList).toList ++ (zeroRow (c' - (l.length + 1)) (#[Value.int .i64 0, Value.int .i64 0] : Array Value).toList).toList) = z at hs hzl
    refine cut_lo (by omega) ?_
    rw [if_neg (by omega), Nat.zero_add]
    have hmin : min 1 (l.length + 1 - i) = 1 := by omega
    refine cpy_s (A := prs (l.take i)) (M := z.take 2) (B := z.drop 2) (ys := prs [e]) hs (by rw [List.append_assoc, List.take_append_drop]) hti (by rw [prs1_len, List.length_take]; omega) .head ?_ hone fun w hs => ?_
    · rw [hmin]
      exact cells_at hs (.tail _ (.tail _ hv)) rfl (by simp only [List.length_append, prs_len, List.length_take, List.length_drop, List.length_cons, List.length_nil]; omega)
    refine draw_r hs fun w hs => ?_
    refine bin_add (by omega) (by omega) ?_
    rw [show (i : Int) + ((1 : Nat) : Int) = ((i + 1 : Nat) : Int) by omega]
    refine cut_lo (by omega) (cut_lo (by omega) ?_)
    have hmin : min (l.length - i) (l.length + 1 - (i + 1)) = l.length - i := by omega
    rw [if_neg (by omega), if_neg (show ¬ c = i by omega), Nat.zero_add, Nat.zero_add]
    refine cpy_s (A := prs (l.take i) ++ prs [e]) (M := (z.drop 2).take ((l.length - i) * 2)) (B := (z.drop 2).drop ((l.length - i) * 2)) (ys := prs (l.drop i)) hs (by rw [List.append_assoc _ (List.take _ _), List.take_append_drop]) (by simp only [List.length_append, prs_len, List.length_take, List.length_drop, List.length_cons, List.length_nil]; omega) (by rw [hdl, List.length_take, List.length_drop]; omega) .head ?_ hone2 fun w hs => ?_
    · rw [hmin]
      exact hsrc2 hs (.tail _ (.head _)) _
    refine hk _ _ _ (own_of (l := l.take i ++ [e] ++ l.drop i) (by rw [prs_app, prs_app]) (by simp only [List.length_append, prs_len, List.length_take, List.length_drop, List.length_cons, List.length_nil]; omega) (by simp only [List.length_append, List.length_drop, hti, hdl, prs1_len, hzl]; omega)) (hs.perm (List.Perm.swap _ _ _)).tail
  · have h : l.length + 1 ≤ c := by omega
    refine bin_add (by omega) (by omega) ?_
    rw [show (l.length : Int) + ((1 : Nat) : Int) = ((l.length + 1 : Nat) : Int) by omega]
    refine cut_hi (by omega) (bin_add (by omega) (by omega) ?_)
    rw [show (i : Int) + ((1 : Nat) : Int) = ((i + 1 : Nat) : Int) by omega]
    refine cut_lo (by omega) ?_
    rw [if_neg (by omega), Nat.zero_add]
    have hspl : 2 ≤ sp.length := by omega
    have hnil : prs l ++ sp ≠ [] := fun e => by
      have := congrArg List.length e
      rw [List.length_append] at this
      have h0 : ([] : List Value).length = 0 := rfl
      omega
    have hm1 : (b2, row T2 (prs [e])) ∈ [(b, row 151 (prs l ++ sp))] ++ R := .tail _ hv
    have hm2 : (b, row 151 (prs l ++ sp)) ∈ [(b, row 151 (prs l ++ sp))] ++ R := .head _
    have hov := overlaps_pairs (o1 := 0) (n1 := 1) (c1 := c2) (o2 := (i + 1) * 2) (n2 := l.length + 1 - (i + 1)) (c2 := c - (i + 1)) hs hm1 hm2 (Ne.symm hne) hnil
    generalize hcf : (callFunc 202 [Value.slice (some ⟨b2, 0, none⟩) 1 c2, .slice (some ⟨b, (i + 1) * 2, none⟩) (l.length + 1 - (i + 1)) (c - (i + 1))].toArray) = S at hov ⊢
    clear hcf
    refine does_r hov ?_
    refine un_not ?_
    refine Br_t ?_
    refine draw_r hs fun w hs => ?_
    refine bin_add (by omega) (by omega) ?_
    rw [show (i : Int) + ((1 : Nat) : Int) = ((i + 1 : Nat) : Int) by omega]
    refine cut_lo (by omega) (cut_lo (by omega) ?_)
    rw [if_neg (by omega), if_neg (by omega), Nat.zero_add, Nat.zero_add]
    have hmin : min (l.length + 1 - i) (l.length + 1 - (i + 1)) = l.length - i := by omega
    generalize hD : prs (l.drop i) ++ sp = D
    have hDl : D.length = (c - i) * 2 := by rw [← hD, List.length_append, hdl]; omega
    refine cpy_s (A := prs (l.take i) ++ D.take 2) (M := (D.drop 2).take ((l.length - i) * 2)) (B := (D.drop 2).drop ((l.length - i) * 2)) (ys := prs (l.drop i)) hs (by rw [List.append_assoc _ (List.take _ (List.drop _ _)), List.take_append_drop, List.append_assoc, List.take_append_drop, hsplit, ← hD, List.append_assoc]) (by rw [List.length_append, hti, List.length_take]; omega) (by rw [hdl, List.length_take, List.length_drop]; omega) .head ?_ hone2 fun w hs => ?_
    · rw [hmin]
      exact hsrc2 hs (.head _) _
    refine cut_lo (by omega) ?_
    rw [if_neg (by omega), Nat.zero_add]
    have hmin : min 1 (l.length + 1 - i) = 1 := by omega
    refine cpy_s (A := prs (l.take i)) (M := D.take 2) (B := prs (l.drop i) ++ (D.drop 2).drop ((l.length - i) * 2)) (ys := prs [e]) hs (by simp only [List.append_assoc]) hti (by rw [prs1_len, List.length_take]; omega) .head ?_ hone fun w hs => ?_
    · rw [hmin]
      exact cells_at hs (.tail _ hv) rfl (by simp only [List.length_append, prs_len, List.length_take, List.length_drop, List.length_cons, List.length_nil]; omega)
    refine hk _ _ _ (own_of (l := l.take i ++ [e] ++ l.drop i) (sp := (D.drop 2).drop ((l.length - i) * 2)) (by rw [prs_app, prs_app]; simp only [List.append_assoc]) (by simp only [List.length_append, prs_len, List.length_take, List.length_drop, List.length_cons, List.length_nil]; omega) (by simp only [List.length_append, List.length_drop, hti, hdl, prs1_len, hDl]; omega)) hs
/-- one pair left out. -/
theorem slices_Delete {l : List Pr} {v : Value} {i : Nat} (hs : Sat G w H) (ho : Own 151 2 v (prs l) Hv) (hsel : Sel Hv H R) (hi : i < l.length) (hl : l.length < 65536)
    (hk : ∀ v' Hv' w', Own 151 2 v' (prs (l.take i ++ l.drop (i + 1))) Hv' → Sat G w' (Hv' ++ R) → k v' w') : call Tryz.prog w 179 [v, int i, int ((i : Int) + 1)] k := by
  refine b_slices_Delete_node_Pair_node_Pair_walk ?_
  unfold b_slices_Delete_node_Pair_node_Pair
  have hs := hs.sel hsel
  have hl0 : l ≠ [] := fun e => by subst e; simp at hi
  obtain ⟨b, c, sp, rfl, rfl, hc⟩ := own_pairs ho hl0
  rw [List.length_append, prs_len] at hc
  have hlen : (prs l).length = l.length * 2 := prs_len l
  rw [show (i : Int) + 1 = ((i + 1 : Nat) : Int) by omega]
  refine len_r (cut_three (by omega) (by omega) (by omega) ?_)
  refine bin_eql (Br_eq (fun h => by omega) (fun _ => len_r (draw_r hs fun w hs => ?_)))
  refine cut_hi (by omega) (cut_lo (by omega) ?_)
  have hti : (prs (l.take i)).length = i * 2 := by rw [prs_len]; simp; omega
  have hdl : (prs (l.drop (i + 1))).length = (l.length - (i + 1)) * 2 := by rw [prs_len]; simp
  generalize hD : prs (l.drop i) ++ sp = D
  have hDl : D.length = (c - i) * 2 := by rw [← hD, List.length_append, prs_len, List.length_drop]; omega
  have hsplit : prs l ++ sp = prs (l.take i) ++ D := by rw [← hD, ← List.append_assoc, ← prs_app, List.take_append_drop]
  have hcell : Cells w 2 (.slice (some ⟨b, if c = i + 1 then 0 else 0 + (i + 1) * 2, none⟩) (l.length - (i + 1)) (c - (i + 1))) (prs (l.drop (i + 1))) := by
    by_cases hcz : c = i + 1
    · rw [if_pos hcz]
      have : l.drop (i + 1) = [] := List.drop_eq_nil_iff.2 (by omega)
      rw [this, show l.length - (i + 1) = 0 by omega]
      exact ⟨rfl, fun j v hj => by simp [prs] at hj⟩
    · rw [if_neg hcz, Nat.zero_add]
      refine cells_at hs (.head _) ?_ (by simp only [List.length_append, prs_len, List.length_take, List.length_drop, List.length_cons, List.length_nil]; omega)
      have h1 : prs l = prs (l.take (i + 1)) ++ prs (l.drop (i + 1)) := by rw [← prs_app, List.take_append_drop]
      rw [h1, List.append_assoc, List.drop_left' (by rw [prs_len]; simp; omega), List.take_left' hdl]
  refine app_s (A := prs (l.take i)) (M := D.take ((l.length - (i + 1)) * 2)) (B := D.drop ((l.length - (i + 1)) * 2)) hs (by rw [List.append_assoc, List.take_append_drop, hsplit]) (by rw [hti]; omega) (by rw [hdl, List.length_take]; omega) .head hcell (by omega) (prs_one _) fun w hs => ?_
  rw [show i + (l.length - (i + 1)) = l.length - 1 by omega]
  refine len_r (cut_both (by omega) (by omega) ?_)
  rw [if_neg (by omega), Nat.zero_add, show l.length - (l.length - 1) = 1 by omega]
  have hBl : (D.drop ((l.length - (i + 1)) * 2)).length = (c - (l.length - 1)) * 2 := by rw [List.length_drop, hDl]; omega
  refine clr_s (H' := fun ys => (b, row 151 (prs (l.take i) ++ prs (l.drop (i + 1)) ++ ys ++ (D.drop ((l.length - (i + 1)) * 2)).drop 2)) :: R) (A := prs (l.take i) ++ prs (l.drop (i + 1))) (M := (D.drop ((l.length - (i + 1)) * 2)).take 2) (B := (D.drop ((l.length - (i + 1)) * 2)).drop 2) hs (by rw [List.append_assoc _ (List.take _ _), List.take_append_drop]) (by rw [List.length_append, hti, hdl]; omega) (by rw [List.length_take, hBl]; show min 2 _ = 1 * 2; omega) (fun ys _ => .head) (by simp [Value.oneCell']) fun ys w hys hs => ?_
  refine hk _ _ _ (own_of (l := l.take i ++ l.drop (i + 1)) (by rw [prs_app, List.append_assoc]) (by simp only [List.length_append, List.length_take, List.length_drop]; omega) ?_) hs
  simp only [List.length_append, List.length_take, List.length_drop, hys, hti, hdl, hDl]; omega
end
end Go.Proofs.YtemenmmekddjaaaGreatDoor
end
section
namespace Go.Proofs.YtemenmmekddjaaaGreatDoor
open Go Go.Wx Go.W
variable {ω : Go.W.Origin}
section
variable {G H R Hb Hv Hv2 : List Blk} {w : World} {k : K}
theorem own_slice {T : TypeId} {v : Value} {l : List Pr} (h : Own T 2 v (prs l) Hv) : ∃ a c, v = .slice a l.length c := by
  cases l with
  | nil =>
    generalize hx : prs [] = xs at h
    cases h with
    | nil => exact ⟨_, _, rfl⟩
    | @some b n c xs sp hn hc =>
      subst hx
      have : n = 0 := by simp [prs] at hn; omega
      subst this; exact ⟨_, _, rfl⟩
  | cons e l =>
    obtain ⟨b, c, sp, h1, _, _⟩ := own_pairs h (by simp)
    exact ⟨_, _, h1⟩
theorem cells_own {T : TypeId} {v : Value} {a : Option Addr} {c : Nat} {l : List Pr} (h : Own T 2 v (prs l) Hv) (hv : v = .slice a l.length c) (hs : Sat G w H) (hm : ∀ p ∈ Hv, p ∈ H) : Cells w 2 (.slice a l.length c) (prs l) := by
  rw [← hv]; exact (h.rd hm).cells hs
theorem swap_split {l : List Pr} {i : Nat} (hi : i < l.length) : l = l.take i ++ l.drop i := (List.take_append_drop i l).symm
/-- other pairs in the place of one. -/
theorem slices_Replace {l bl : List Pr} {v v2 : Value} {i : Nat} {T2 : TypeId} (hs : Sat G w H) (ho : Own 151 2 v (prs l) Hv) (hsel : Sel Hv H R) (hi : i < l.length) (hl : l.length < 65536) (h2 : bl.length ≤ 2) (ho2 : Own T2 2 v2 (prs bl) Hv2) (hm2 : ∀ p ∈ Hv2, p ∈ R)
    (hk : ∀ v' Hv' w', Own 151 2 v' (prs (l.take i ++ bl ++ l.drop (i + 1))) Hv' → Sat G w' (Hv' ++ R) → k v' w') : call Tryz.prog w 230 [v, int i, int ((i : Int) + 1), v2] k := by
  refine b_slices_Replace_node_Pair_node_Pair_walk ?_
  unfold b_slices_Replace_node_Pair_node_Pair
  have hs := hs.sel hsel
  have hl0 : l ≠ [] := fun e => by subst e; simp at hi
  obtain ⟨b, c, sp, rfl, rfl, hc⟩ := own_pairs ho hl0
  obtain ⟨a2, c2, hv2⟩ := own_slice ho2
  rw [List.length_append, prs_len] at hc
  have hlen : (prs l).length = l.length * 2 := prs_len l
  have hone := prs_one bl
  have hone2 := prs_one (l.drop (i + 1))
  have hti : (prs (l.take i)).length = i * 2 := by rw [prs_len]; simp; omega
  have hdl : (prs (l.drop (i + 1))).length = (l.length - (i + 1)) * 2 := by rw [prs_len]; simp
  have hbl : (prs bl).length = bl.length * 2 := prs_len bl
  generalize hD : prs (l.drop i) ++ sp = D
  have hDl : D.length = (c - i) * 2 := by rw [← hD, List.length_append, prs_len, List.length_drop]; omega
  have hsplit : prs l ++ sp = prs (l.take i) ++ D := by rw [← hD, ← List.append_assoc, ← prs_app, List.take_append_drop]
  have hsrc2 : ∀ {w' : World} {H' : List Blk}, Sat G w' H' → (b, row 151 (prs l ++ sp)) ∈ H' → ∀ c', Cells w' 2 (.slice (some ⟨b, (i + 1) * 2, none⟩) (l.length - (i + 1)) c') (prs (l.drop (i + 1))) := fun hs hm c' => by
    refine cells_at hs hm ?_ (by simp only [List.length_append, prs_len, List.length_take, List.length_drop, List.length_cons, List.length_nil]; omega)
    have h1 : prs l = prs (l.take (i + 1)) ++ prs (l.drop (i + 1)) := by rw [← prs_app, List.take_append_drop]
    rw [h1, List.append_assoc, List.drop_left' (by rw [prs_len]; simp; omega), List.take_left' hdl]
  rw [show (i : Int) + 1 = ((i + 1 : Nat) : Int) by omega]
  refine cut_both (by omega) (by omega) ?_
  refine bin_eql (Br_eq (fun h => by omega) (fun _ => len_r (bin_eql (Br_eq (fun h => ?_) (fun h => ?_)))))
  · have hin : l.length = i + 1 := by omega
    have hnil : l.drop (i + 1) = [] := List.drop_eq_nil_iff.2 (by omega)
    refine cut_hi (by omega) ?_
    by_cases hm0 : bl = []
    · subst hm0
      subst hv2
      refine app_s (A := prs (l.take i)) (M := []) (B := D) (ys := prs []) hs (by rw [List.append_nil, hsplit]) (by rw [hti]; omega) rfl .head (cells_own ho2 rfl hs fun p hp => .tail _ (hm2 p hp)) (by simp; omega) (by simp [prs]) fun w hs => ?_
      refine len_r (len_r (bin_lss (Br_d (fun _ => ?_) (fun h => absurd (show ((i + ([] : List Pr).length : Nat) : Int) < l.length by simp; omega) h))))
      refine len_r (cut_lo (by simp; omega) ?_)
      rw [if_neg (by simp; omega), Nat.zero_add]
      have e0 : i + ([] : List Pr).length = i := rfl
      rw [e0, show l.length - i = 1 by omega]
      refine clr_s (H' := fun ys => (b, row 151 (prs (l.take i) ++ prs [] ++ ys ++ D.drop 2)) :: R) (A := prs (l.take i) ++ prs []) (M := D.take 2) (B := D.drop 2) hs (by rw [List.append_assoc _ (List.take _ _), List.take_append_drop]) (by rw [List.length_append, hti]; rfl) (by rw [List.length_take, hDl]; show min 2 _ = 1 * 2; omega) (fun ys _ => .head) (by simp [Value.oneCell']) fun ys w hys hs => ?_
      unfold b_slices_Replace_node_Pair_node_Pairj1
      refine hk _ _ _ (own_of (l := l.take i ++ [] ++ l.drop (i + 1)) (sp := ys ++ D.drop 2) (by rw [hnil, prs_app, prs_app, List.append_assoc]; simp [prs]) (by rw [hnil]; simp; omega) ?_) hs
      simp only [List.length_append, List.length_take, List.length_drop, hys, hti, hDl, prs_len, List.length_nil]; omega
    · have hm1 : 1 ≤ bl.length := List.length_pos_iff.2 hm0
      have ho' : Own 151 2 (.slice (some ⟨b, 0, none⟩) i c) (prs (l.take i)) [(b, row 151 (prs l ++ sp))] := own_of (l := l.take i) (sp := D) hsplit (by simp; omega) (by rw [List.length_append, prs_len]; omega)
      subst hv2
      refine app_r hs ho' .here (cells_own ho2 rfl hs fun p hp => .tail _ (hm2 p hp)) hone (by decide) rfl (by decide) (by rw [hti, hbl]; omega) fun v' Hv' w ho hs => ?_
      rw [← prs_app] at ho
      obtain ⟨a', c', rfl⟩ := own_slice ho
      have hl' : (l.take i ++ bl).length = i + bl.length := by simp; omega
      rw [hl'] at ho ⊢
      refine len_r (len_r (bin_lss (Br_d (fun h => by omega) (fun _ => ?_))))
      unfold b_slices_Replace_node_Pair_node_Pairj1
      refine hk _ _ _ ?_ hs
      rw [hnil, List.append_nil]; exact ho
  have hi1 : i + 1 < l.length := by omega
  refine draw_r hs fun w hs => ?_
  refine cut_hi (by omega) (len_r ?_)
  subst hv2
  refine len_r (bin_add (by omega) (by omega) (cut_lo (by omega) (len_r (bin_add (by omega) (by omega) (cap_r ?_)))))
  rw [show (i : Int) + (bl.length : Int) + ((l.length - (i + 1) : Nat) : Int) = ((l.length - 1 + bl.length : Nat) : Int) by omega]
  have hcell2 : ∀ {w' : World} {H' : List Blk}, Sat G w' H' → (∀ p ∈ R, p ∈ H') → Cells w' 2 (.slice a2 bl.length c2) (prs bl) := fun hs hm => cells_own ho2 rfl hs fun p hp => hm p (hm2 p hp)
  refine bin_gtr (Br_d (fun h => ?_) (fun h => ?_))
  · have hb2 : bl.length = 2 := by omega
    refine cut_hi (by omega) (bin_sub (by omega) (by omega) ?_)
    rw [show ((l.length - 1 + bl.length : Nat) : Int) - i = ((l.length + 1 - i : Nat) : Int) by omega]
    refine appZ_new hs (.head _) (by simp only [List.length_append, prs_len, List.length_take, List.length_drop, List.length_cons, List.length_nil]; omega) (by omega) rfl (by decide) (by omega) fun b' c' w hc' hs => ?_
    rw [show i + (l.length + 1 - i) = l.length + 1 by omega] at hc' hs ⊢
    have hrow : List.take (i * 2) (List.drop 0 (prs l ++ sp)) = prs (l.take i) := by
      rw [List.drop_zero, hsplit, List.take_left' hti]
    rw [hrow, List.append_assoc] at hs
    have hzl : ((zeroRow (l.length + 1 - i) (#[Value.int .i64 0, Value.int .i64 0] : Array Value).toList).toList ++ (zeroRow (c' - (l.length + 1)) (#[Value.int .i64 0, Value.int .i64 0] : Array Value).toList).toList).length = (c' - i) * 2 := by
      rw [List.length_append, zeroRow_length, zeroRow_length]
      show (l.length + 1 - i) * 2 + (c' - (l.length + 1)) * 2 = _
      omega
    generalize ((zeroRow (l.length + 1 - i) (#[Value.int .i64 0, Value.int .i64 0] : Array Value).toList).toList ++ (zeroRow (c' - (l.length + 1)) (#[Value.int .i64 0, Value.int .i64 0] : Array Value).toList).toList) = z at hs hzl
    refine cut_lo (by omega) ?_
    rw [if_neg (by omega), Nat.zero_add]
    have hmin : min bl.length (l.length + 1 - i) = bl.length := by omega
    refine cpy_s (A := prs (l.take i)) (M := z.take 4) (B := z.drop 4) (ys := prs bl) hs (by rw [List.append_assoc, List.take_append_drop]) hti (by rw [hbl, List.length_take]; omega) .head ?_ hone fun w hs => ?_
    · rw [hmin]
      exact hcell2 hs fun p hp => .tail _ (.tail _ hp)
    refine draw_r hs fun w hs => ?_
    refine len_r (bin_add (by omega) (by omega) ?_)
    rw [show (i : Int) + (bl.length : Int) = ((i + bl.length : Nat) : Int) by omega]
    refine cut_lo (by omega) (cut_lo (by omega) ?_)
    have hmin : min (l.length - (i + 1)) (l.length + 1 - (i + bl.length)) = l.length - (i + 1) := by omega
    rw [if_neg (by omega), if_neg (show ¬ c = i + 1 by omega), Nat.zero_add, Nat.zero_add]
    refine cpy_s (A := prs (l.take i) ++ prs bl) (M := (z.drop 4).take ((l.length - (i + 1)) * 2)) (B := (z.drop 4).drop ((l.length - (i + 1)) * 2)) (ys := prs (l.drop (i + 1))) hs (by rw [List.append_assoc _ (List.take _ _), List.take_append_drop]) (by simp only [List.length_append, prs_len, List.length_take, List.length_drop, List.length_cons, List.length_nil]; omega) (by rw [hdl, List.length_take, List.length_drop]; omega) .head ?_ hone2 fun w hs => ?_
    · rw [hmin]
      exact hsrc2 hs (.tail _ (.head _)) _
    refine hk _ _ _ (own_of (l := l.take i ++ bl ++ l.drop (i + 1)) (by rw [prs_app, prs_app]) (by simp only [List.length_append, prs_len, List.length_take, List.length_drop, List.length_cons, List.length_nil]; omega) (by simp only [List.length_append, List.length_drop, hti, hdl, hbl, hzl]; omega)) (hs.perm (List.Perm.swap _ _ _)).tail
  have hfit : l.length - 1 + bl.length ≤ c := by omega
  refine cut_hi hfit (len_r (bin_add (by omega) (by omega) ?_))
  rw [show (i : Int) + (bl.length : Int) = ((i + bl.length : Nat) : Int) by omega]
  refine bin_leq (Br_d (fun h => ?_) (fun h => ?_))
  · have hb1 : bl.length ≤ 1 := by omega
    refine cut_lo (by omega) ?_
    rw [if_neg (by omega), Nat.zero_add]
    have hmin : min bl.length (l.length - 1 + bl.length - i) = bl.length := by omega
    refine cpy_s (A := prs (l.take i)) (M := D.take (bl.length * 2)) (B := D.drop (bl.length * 2)) (ys := prs bl) hs (by rw [List.append_assoc, List.take_append_drop, hsplit]) hti (by rw [hbl, List.length_take]; omega) .head ?_ hone fun w hs => ?_
    · rw [hmin]
      exact hcell2 hs fun p hp => .tail _ hp
    refine draw_r hs fun w hs => ?_
    refine len_r (bin_add (by omega) (by omega) ?_)
    rw [show (i : Int) + (bl.length : Int) = ((i + bl.length : Nat) : Int) by omega]
    refine cut_lo (by omega) (cut_lo (by omega) ?_)
    have hmin : min (l.length - (i + 1)) (l.length - 1 + bl.length - (i + bl.length)) = l.length - (i + 1) := by omega
    rw [if_neg (by omega), if_neg (show ¬ c = i + 1 by omega), Nat.zero_add, Nat.zero_add]
    have hD2 : D = prs [l[i]] ++ prs (l.drop (i + 1)) ++ sp := by rw [← hD, ← prs_app]; simp
    refine cpy_s (A := prs (l.take i) ++ prs bl) (M := (D.drop (bl.length * 2)).take ((l.length - (i + 1)) * 2)) (B := (D.drop (bl.length * 2)).drop ((l.length - (i + 1)) * 2)) (ys := prs (l.drop (i + 1))) hs (by rw [List.append_assoc _ (List.take _ _), List.take_append_drop]) (by simp only [List.length_append, prs_len, List.length_take, List.length_drop, List.length_cons, List.length_nil]; omega) (by rw [hdl, List.length_take, List.length_drop]; omega) .head ?_ hone2 fun w hs => ?_
    · rw [hmin]
      refine cells_at hs (.head _) ?_ (by simp only [List.length_append, List.length_drop, hti, hbl, hDl]; omega)
      have e1 : (prs (l.take i) ++ prs bl ++ D.drop (bl.length * 2)).drop ((i + 1) * 2) = prs (l.drop (i + 1)) ++ sp := by
        have h1 : bl.length = 0 ∨ bl.length = 1 := by omega
        rcases h1 with h1 | h1
        · have : bl = [] := List.length_eq_zero_iff.1 h1
          subst this
          rw [show prs [] = [] from rfl, List.append_nil, List.length_nil, Nat.zero_mul, List.drop_zero, hD2, List.append_assoc, ← List.append_assoc, List.drop_left' (by rw [List.length_append, hti, prs1_len]; omega)]
        · rw [h1, hD2, List.append_assoc (prs [l[i]]), List.drop_left' (prs1_len _), List.drop_left' (by rw [List.length_append, hti, hbl, h1]; omega)]
      rw [e1, List.take_left' hdl]
    refine cut_lo (by omega) ?_
    generalize hB : (D.drop (bl.length * 2)).drop ((l.length - (i + 1)) * 2) = B at hs
    have hBl : B.length = (c - (l.length - 1 + bl.length)) * 2 := by rw [← hB, List.length_drop, List.length_drop, hDl]; omega
    have hfin : ∀ ys w, ys.length = B.length → Sat G w ((b, row 151 (prs (l.take i) ++ prs bl ++ prs (l.drop (i + 1)) ++ ys)) :: R) → k (.slice (some ⟨b, 0, none⟩) (l.length - 1 + bl.length) c) w := fun ys w hys hs => by
      refine hk _ _ _ (own_of (l := l.take i ++ bl ++ l.drop (i + 1)) (by rw [prs_app, prs_app]) (by simp only [List.length_append, prs_len, List.length_take, List.length_drop, List.length_cons, List.length_nil]; omega) ?_) hs
      simp only [List.length_append, hys, hti, hdl, hbl, hBl]; omega
    have h1 : bl.length = 0 ∨ bl.length = 1 := by omega
    rcases h1 with h1 | h1
    · rw [if_neg (by omega), Nat.zero_add]
      refine clr_s (H' := fun ys => (b, row 151 (prs (l.take i) ++ prs bl ++ prs (l.drop (i + 1)) ++ ys ++ B.drop 2)) :: R) (A := prs (l.take i) ++ prs bl ++ prs (l.drop (i + 1))) (M := B.take 2) (B := B.drop 2) hs (by rw [List.append_assoc _ (List.take _ _), List.take_append_drop]) (by rw [List.length_append, List.length_append, hti, hdl, hbl]; omega) (by rw [List.length_take, hBl]; show min 2 _ = (l.length - (l.length - 1 + bl.length)) * 2; omega) (fun ys _ => .head) (by simp [Value.oneCell']) fun ys w hys hs => ?_
      refine hfin (ys ++ B.drop 2) w (by rw [List.length_append, hys, List.length_take, List.length_drop]; omega) (by rw [List.append_assoc _ ys] at hs; exact hs)
    · have e0 : l.length - (l.length - 1 + bl.length) = 0 := by omega
      rw [e0]
      refine clr_r (T := 151) (cs := prs (l.take i) ++ prs bl ++ prs (l.drop (i + 1)) ++ B) (H' := (b, row 151 (prs (l.take i) ++ prs bl ++ prs (l.drop (i + 1)) ++ B)) :: R) hs ?_ (by simp only [List.length_append, hti, hdl, hbl, hBl]; split <;> omega) (by simp [Value.oneCell']) fun w hs => hfin B w rfl hs
      have ez : (zeroRow 0 (#[Value.int .i64 0, Value.int .i64 0] : Array Value).toList).toList = [] := rfl
      rw [ez]
      simp only [List.append_nil, List.length_nil, Nat.add_zero, List.take_append_drop]
      exact .head
  · have hb2 : bl.length = 2 := by omega
    have hbne : bl ≠ [] := fun e => by rw [e] at hb2; simp at hb2
    obtain ⟨b2, c2', sp2, hv2', hHv2, _⟩ := own_pairs ho2 hbne
    cases hv2'
    have hin : (b2, row T2 (prs bl ++ sp2)) ∈ R := hm2 _ (by rw [hHv2]; exact List.Mem.head _)
    refine len_r (bin_add (by omega) (by omega) ?_)
    rw [show (i : Int) + (bl.length : Int) = ((i + bl.length : Nat) : Int) by omega]
    refine cut_lo (by omega) ?_
    rw [if_neg (by omega), Nat.zero_add]
    have hm1 : (b2, row T2 (prs bl ++ sp2)) ∈ [(b, row 151 (prs l ++ sp))] ++ R := .tail _ hin
    have hm2' : (b, row 151 (prs l ++ sp)) ∈ [(b, row 151 (prs l ++ sp))] ++ R := .head _
    have hne : b ≠ b2 := sat_apart hs hin
    have hnil : prs bl ++ sp2 ≠ [] := fun e => by
      have := congrArg List.length e
      rw [List.length_append, hbl] at this
      have h0 : ([] : List Value).length = 0 := rfl
      omega
    have hov := overlaps_pairs (o1 := (i + bl.length) * 2) (n1 := l.length - 1 + bl.length - (i + bl.length)) (c1 := c - (i + bl.length)) (o2 := 0) (n2 := bl.length) (c2 := c2) hs hm2' hm1 hne hnil
    generalize hcf : (callFunc 202 [Value.slice (some ⟨b, (i + bl.length) * 2, none⟩) (l.length - 1 + bl.length - (i + bl.length)) (c - (i + bl.length)), .slice (some ⟨b2, 0, none⟩) bl.length c2].toArray) = S at hov ⊢
    clear hcf
    refine does_r hov ?_
    refine un_not ?_
    refine Br_t ?_
    refine draw_r hs fun w hs => ?_
    refine len_r (bin_add (by omega) (by omega) ?_)
    rw [show (i : Int) + (bl.length : Int) = ((i + bl.length : Nat) : Int) by omega]
    refine cut_lo (by omega) (cut_lo (by omega) ?_)
    rw [if_neg (by omega), if_neg (by omega), Nat.zero_add, Nat.zero_add]
    have hmin : min (l.length - (i + 1)) (l.length - 1 + bl.length - (i + bl.length)) = l.length - (i + 1) := by omega
    refine cpy_s (A := prs (l.take i) ++ D.take 4) (M := (D.drop 4).take ((l.length - (i + 1)) * 2)) (B := (D.drop 4).drop ((l.length - (i + 1)) * 2)) (ys := prs (l.drop (i + 1))) hs (by rw [List.append_assoc _ (List.take _ (List.drop _ _)), List.take_append_drop, List.append_assoc, List.take_append_drop, hsplit]) (by rw [List.length_append, hti, List.length_take]; omega) (by rw [hdl, List.length_take, List.length_drop]; omega) .head ?_ hone2 fun w hs => ?_
    · rw [hmin]
      exact hsrc2 hs (.head _) _
    refine cut_lo (by omega) ?_
    rw [if_neg (by omega), Nat.zero_add]
    have hmin : min bl.length (l.length - 1 + bl.length - i) = bl.length := by omega
    refine cpy_s (A := prs (l.take i)) (M := D.take 4) (B := prs (l.drop (i + 1)) ++ (D.drop 4).drop ((l.length - (i + 1)) * 2)) (ys := prs bl) hs (by simp only [List.append_assoc]) hti (by rw [hbl, List.length_take]; omega) .head ?_ hone fun w hs => ?_
    · rw [hmin]
      exact hcell2 hs fun p hp => .tail _ hp
    refine hk _ _ _ (own_of (l := l.take i ++ bl ++ l.drop (i + 1)) (sp := (D.drop 4).drop ((l.length - (i + 1)) * 2)) (by rw [prs_app, prs_app]; simp only [List.append_assoc]) (by simp only [List.length_append, prs_len, List.length_take, List.length_drop, List.length_cons, List.length_nil]; omega) (by simp only [List.length_append, List.length_drop, hti, hdl, hbl, hDl]; omega)) hs
end
end Go.Proofs.YtemenmmekddjaaaGreatDoor
end
