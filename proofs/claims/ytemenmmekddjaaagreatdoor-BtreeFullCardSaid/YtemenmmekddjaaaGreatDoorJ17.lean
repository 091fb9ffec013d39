/- What some functions of the library do. No condition. What the functions of package node do. No condition. What the functions of package node do: nodes out of pairs. No condition. Searching in a slice that rises. No condition. -/
import Derived.Test.YtemenmmekddjaaaGreatDoorJ06
import Derived.Test.YtemenmmekddjaaaGreatDoorJ07
import Derived.Test.YtemenmmekddjaaaGreatDoorJ15
import Derived.Test.YtemenmmekddjaaaGreatDoorJ16
set_option linter.all false
set_option linter.unusedVariables false
set_option linter.unusedSimpArgs false
set_option linter.unnecessarySimpa false
set_option linter.unusedSectionVars false
set_option linter.constructorNameAsVariable false
section
namespace Go.Proofs.YtemenmmekddjaaaGreatDoor
open Go Go.Wx Go.W
variable {ω : Go.W.Origin}
section
variable {G H R Hb : List Blk} {w : World} {k : K}
theorem eq_slicen {neg c : Bool} {a : Option Addr} {n m : Nat} (hk : k (.bool (neg != a.isNone)) w) : eq w neg c .slice (.slice a n m) (.slice none 0 0) k := by
  cases a <;> exact ⟨_, rfl, hk⟩
theorem ints_one {xs : List Value} (h : ∃ l : List Int, xs = l.map int) : ∀ y ∈ xs, y.oneCell' = true := by
  obtain ⟨l, rfl⟩ := h
  intro y hy
  obtain ⟨x, _, rfl⟩ := List.mem_map.1 hy
  rfl
theorem slices_Clone_int_int {v : Value} {xs : List Value} (hs : Sat G w H) (hr : Rd 1 v xs H) (h1 : ∀ y ∈ xs, y.oneCell' = true) (hl : xs.length ≤ 1073741824)
    (hk : ∀ v' Hv' w', Own 3 1 v' xs Hv' → Sat G w' (Hv' ++ H) → k v' w') : call Tryz.prog w 180 [v] k := by
  refine b_slices_Clone_int_int_walk ?_
  unfold b_slices_Clone_int_int
  have hcell := hr.cells hs
  cases hr with
  | @nil c hv hx =>
    subst hv; subst hx
    refine eq_slicen (Br_t ?_)
    exact hk _ _ _ .nil (by simpa using hs)
  | @some b o n c hv hn hlies =>
    subst hv
    refine eq_slicen (Br_f ?_)
    refine bldS_r (cs := []) hs rfl (by decide) fun b' w' hs' => ?_
    refine app_r (Hv := [(b', row 3 [])]) (R := H) hs' (Own.some (xs := []) (sp := []) rfl rfl) .here ⟨hn, fun j x hj => ?_⟩ h1 (by decide) rfl (by decide) (by simpa using hl) fun v' Hv' w2 ho hs2 => hk v' Hv' w2 (by simpa using ho) hs2
    obtain ⟨T, cs, h1, h2⟩ := hlies
    rw [Addr.add_lit]
    exact (h1.mono fun p hp => .tail _ hp).cell hs' (h2 _ _ hj)
theorem slices_Clone_uint64_uint64 {v : Value} {xs : List Value} (hs : Sat G w H) (hr : Rd 1 v xs H) (h1 : ∀ y ∈ xs, y.oneCell' = true) (hl : xs.length ≤ 1073741824)
    (hk : ∀ v' Hv' w', Own 222 1 v' xs Hv' → Sat G w' (Hv' ++ H) → k v' w') : call Tryz.prog w 232 [v] k := by
  refine b_slices_Clone_uint64_uint64_walk ?_
  unfold b_slices_Clone_uint64_uint64
  have hcell := hr.cells hs
  cases hr with
  | @nil c hv hx =>
    subst hv; subst hx
    refine eq_slicen (Br_t ?_)
    exact hk _ _ _ .nil (by simpa using hs)
  | @some b o n c hv hn hlies =>
    subst hv
    refine eq_slicen (Br_f ?_)
    refine bldS_r (cs := []) hs rfl (by decide) fun b' w' hs' => ?_
    refine app_r (Hv := [(b', row 222 [])]) (R := H) hs' (Own.some (xs := []) (sp := []) rfl rfl) .here ⟨hn, fun j x hj => ?_⟩ h1 (by decide) rfl (by decide) (by simpa using hl) fun v' Hv' w2 ho hs2 => hk v' Hv' w2 (by simpa using ho) hs2
    obtain ⟨T, cs, h1, h2⟩ := hlies
    rw [Addr.add_lit]
    exact (h1.mono fun p hp => .tail _ hp).cell hs' (h2 _ _ hj)
theorem slices_Clone_roster_Entry_roster_Entry {v : Value} {xs : List Value} (hs : Sat G w H) (hr : Rd 2 v xs H) (h1 : ∀ y ∈ xs, y.oneCell' = true) (hl : xs.length ≤ 1073741824)
    (hk : ∀ v' Hv' w', Own 95 2 v' xs Hv' → Sat G w' (Hv' ++ H) → k v' w') : call Tryz.prog w 135 [v] k := by
  refine b_slices_Clone_roster_Entry_roster_Entry_walk ?_
  unfold b_slices_Clone_roster_Entry_roster_Entry
  have hcell := hr.cells hs
  cases hr with
  | @nil c hv hx =>
    subst hv; subst hx
    refine eq_slicen (Br_t ?_)
    exact hk _ _ _ .nil (by simpa using hs)
  | @some b o n c hv hn hlies =>
    subst hv
    refine eq_slicen (Br_f ?_)
    refine bldS_r (cs := []) hs rfl (by decide) fun b' w' hs' => ?_
    refine app_r (Hv := [(b', row 95 [])]) (R := H) hs' (Own.some (xs := []) (sp := []) rfl rfl) .here ⟨hn, fun j x hj => ?_⟩ h1 (by decide) rfl (by decide) (by simpa using hl) fun v' Hv' w2 ho hs2 => hk v' Hv' w2 (by simpa using ho) hs2
    obtain ⟨T, cs, h1, h2⟩ := hlies
    rw [Addr.add_lit]
    exact (h1.mono fun p hp => .tail _ hp).cell hs' (h2 _ _ hj)
theorem slices_IndexFunc_int_int {l : List Int} {v fv : Value} {p : Int → Bool} (hs : Sat G w H) (hr : Rd 1 v (l.map (fun x => int x)) H) (hlen : l.length < 4611686018427387904)
    (hc : ∀ x ∈ l, ∀ w kk, Sat G w H → (∀ w', Sat G w' H → kk (.bool (p x)) w') → callV Tryz.prog w fv [int x] kk)
    (hk : ∀ i : Int, (0 ≤ i ↔ l.any p = true) → -1 ≤ i → ∀ w', Sat G w' H → k (int i) w') : call Tryz.prog w 225 [v, fv] k := by
  refine b_slices_IndexFunc_int_int_walk ?_
  unfold b_slices_IndexFunc_int_int
  refine hr.len l.length (by simp) (by decide) ?_
  refine loop_r (fun n vs w => ∃ i : Nat, vs = [int i] ∧ n = l.length - i ∧ i ≤ l.length ∧ (l.take i).any p = false ∧ Sat G w H) l.length ⟨0, rfl, rfl, by omega, by simp, hs⟩ ?_
  rintro J n vs w next ⟨i, rfl, rfl, hi, hnone, hs⟩ hnext
  refine bin_lss (Br_d (fun h => ?_) (fun h => ?_))
  · have hi' : i < l.length := by exact_mod_cast h
    refine hr.ld1 hs hi' ?_
    refine hc _ (List.getElem_mem _) w _ hs fun w hs => ?_
    refine Br_r (fun hp => ?_) (fun hp => ?_)
    · refine hk i ⟨fun _ => List.any_eq_true.2 ⟨_, List.getElem_mem hi', hp⟩, fun _ => by omega⟩ (by omega) _ hs
    · refine bin_add (by omega) (by omega) ?_
      refine hnext (l.length - (i + 1)) _ _ (by omega) ⟨i + 1, rfl, rfl, by omega, ?_, hs⟩
      rw [List.take_add_one, List.any_append, hnone, List.getElem?_eq_getElem hi']
      simp [hp]
  · have hi' : i = l.length := by have : ¬ i < l.length := by exact_mod_cast h
                                  omega
    subst hi'
    refine hk (-1) ⟨fun h => by omega, fun h => ?_⟩ (by omega) _ hs
    rw [List.take_length] at hnone
    rw [hnone] at h; cases h
theorem slices_ContainsFunc_int_int {l : List Int} {v fv : Value} {p : Int → Bool} (hs : Sat G w H) (hr : Rd 1 v (l.map (fun x => int x)) H) (hlen : l.length < 4611686018427387904)
    (hc : ∀ x ∈ l, ∀ w kk, Sat G w H → (∀ w', Sat G w' H → kk (.bool (p x)) w') → callV Tryz.prog w fv [int x] kk)
    (hk : ∀ w', Sat G w' H → k (.bool (l.any p)) w') : call Tryz.prog w 193 [v, fv] k := by
  refine b_slices_ContainsFunc_int_int_walk ?_
  unfold b_slices_ContainsFunc_int_int
  refine slices_IndexFunc_int_int hs hr hlen hc fun i hi _ w hs => ?_
  refine bin_geq ?_
  have : decide (i ≥ 0) = l.any p := by
    cases h : l.any p with
    | true => simpa using hi.2 h
    | false => simp only [h] at hi; simpa using hi
  rw [this]; exact hk _ hs
end
end Go.Proofs.YtemenmmekddjaaaGreatDoor
end
section
namespace Go.Proofs.YtemenmmekddjaaaGreatDoor
open Go Go.Wx Go.W
variable {ω : Go.W.Origin}
abbrev pr (e : Pr) : List Value := [int e.1, int e.2]
def prOk (e : Pr) : Bool := decide (0 ≤ e.1 ∧ e.1 ≤ 1099511627776 ∧ 1 ≤ e.2 ∧ e.2 ≤ 2305843009213693952)
section
variable {G H R Hb Hd : List Blk} {w : World} {k : K} {b : Nat}
theorem pair_right {e : Pr} (hs : Sat G w H) (hk : ∀ w', Sat G w' H → k (.bool (prOk e)) w') : call Tryz.prog w 164 [.agg (pr e).toArray] k := by
  refine b_node_Pair_right_walk ?_
  unfold b_node_Pair_right
  refine boxA_r (cs := pr e) hs fun b w hs => ?_
  have hk : ∀ x : Bool, x = prOk e → k (.bool x) w := fun x hx => by rw [hx]; exact hk _ hs.tail
  refine add_r (ld_r hs (.head _) rfl (bin_geq (Br_d (fun h1 => ?_) (fun h1 => ?_))))
  · refine add_r (ld_r hs (.head _) rfl (bin_leq (Br_d (fun h2 => ?_) (fun h2 => ?_))))
    · refine add_r (ld_r hs (.head _) rfl (bin_geq (Br_d (fun h3 => ?_) (fun h3 => ?_))))
      · refine add_r (ld_r hs (.head _) rfl (bin_leq (hk _ ?_)))
        unfold prOk; apply decide_eq_decide.2; omega
      · refine hk _ ?_; unfold prOk; symm; apply decide_eq_false; omega
    · refine hk _ ?_; unfold prOk; symm; apply decide_eq_false; omega
  · refine hk _ ?_; unfold prOk; symm; apply decide_eq_false; omega
/-- is the pair with the number i right, and behind the one ahead of it? -/
def ordAt (l : List Pr) (i : Nat) : Bool := prOk (l.getD i (0, 0)) && (i == 0 || decide ((l.getD (i - 1) (0, 0)).1 < (l.getD i (0, 0)).1))
def ordP (l : List Pr) : Bool := (List.range l.length).all (ordAt l)
theorem node_ordered {l : List Pr} {v : Value} (hs : Sat G w H) (hr : Rd 2 v (l.flatMap pr) H) (hl : l.length < 65536) (hk : ∀ w', Sat G w' H → k (.bool (ordP l)) w') : call Tryz.prog w 154 [v] k := by
  refine b_node_ordered_walk ?_
  unfold b_node_ordered
  refine hr.len l.length (flat_len fun _ _ => rfl) (by decide) ?_
  refine loop_r (fun c vs w => ∃ i : Nat, i ≤ l.length ∧ vs = [int i] ∧ c = l.length - i ∧ (∀ j, j < i → ordAt l j = true) ∧ Sat G w H) l.length ⟨0, by omega, rfl, rfl, fun j h => by omega, hs⟩ ?_
  rintro J c vs w next ⟨i, hi, rfl, rfl, hall, hs⟩ hnext
  refine bin_lss (Br_d (fun h => ?_) (fun h => ?_))
  · have hi' : i < l.length := by
      have : (i : Int) < l.length := h
      omega
    have hgi : l.getD i (0, 0) = l[i] := by simp [List.getD, hi']
    have hbad : ordAt l i = false → ∀ w', Sat G w' H → k (.bool false) w' := fun hf w' hs' => by
      have : ordP l = false := by
        unfold ordP
        rw [List.all_eq_false]
        exact ⟨i, List.mem_range.2 hi', by simp [hf]⟩
      have h2 := hk w' hs'
      rw [this] at h2; exact h2
    have hgood : ordAt l i = true → ∀ w', Sat G w' H → next [int ((i : Int) + 1)] w' := fun ht w' hs' =>
      hnext (l.length - (i + 1)) _ _ (by omega) ⟨i + 1, by omega, rfl, rfl, fun j hj => by
        rcases Nat.lt_or_ge j i with h | h
        · exact hall j h
        · obtain rfl : j = i := by omega
          exact ht, hs'⟩
    refine hr.ldN hs (fun _ _ => rfl) (by decide) hi' ?_
    refine new_r (cs := [int 0, int 0]) hs fun b4 w hs => ?_
    refine stN_r (vs := pr l[i]) hs .head rfl (by simp) (by simp [Value.oneCell']) fun w hs => ?_
    have hs : Sat G w ((b4, row 151 (pr l[i])) :: H) := hs
    refine drawS_r (fun w => Sat G w ((b4, row 151 (pr l[i])) :: H)) hs fun w hs => ?_
    refine held_ldN (vs := pr l[i]) hs (.head _) rfl rfl ?_
    refine pair_right hs fun w hs => ⟨hs, un_not ?_⟩
    refine Br_r (fun h1 => ?_) (fun h1 => ?_)
    · exact hbad (by unfold ordAt; rw [hgi]; simp at h1; rw [h1]; rfl) _ hs.tail
    have h1 : prOk l[i] = true := by simpa using h1
    refine bin_gtr (Br_d (fun h2 => ?_) (fun h2 => ?_))
    · have h2 : 0 < i := by
        have : (i : Int) > 0 := h2
        omega
      refine bin_sub (by omega) (by omega) ?_
      have hi1 : i - 1 < l.length := by omega
      have hgi1 : l.getD (i - 1) (0, 0) = l[i - 1] := by simp [List.getD, hi1]
      rw [show ((i : Int) - 1) = ((i - 1 : Nat) : Int) by omega]
      refine (hr.mono (H' := (b4, row 151 (pr l[i])) :: H) fun p hp => .tail _ hp).idx (fun _ _ => rfl) (by decide) hi1 fun b5 o5 h5 => ?_
      refine add_r (add_r (h5.held1 hs rfl (held_ld hs (.head _) rfl ?_)))
      refine bin_geq (Br_d (fun h3 => ?_) (fun h3 => ?_))
      · exact hbad (by unfold ordAt; rw [hgi, hgi1]; simp; intro _; exact ⟨by omega, h3⟩) _ hs.tail
      · exact bin_add (by omega) (by omega) (hgood (by unfold ordAt; rw [hgi, hgi1, h1]; simp; right; omega) _ hs.tail)
    · have h2 : i = 0 := by
        have : ¬ (i : Int) > 0 := h2
        omega
      exact bin_add (by omega) (by omega) (hgood (by unfold ordAt; rw [hgi, h1]; simp [h2]) _ hs.tail)
  · have hi' : i = l.length := by
      have : ¬ (i : Int) < l.length := h
      omega
    have : ordP l = true := by
      unfold ordP
      rw [List.all_eq_true]
      intro j hj
      exact hall j (by rw [hi']; exact List.mem_range.1 hj)
    rw [this] at hk; exact hk _ hs
theorem node_pairs {lv : Int} {kv vv : Value} {ks vs : List Int} (hs : Sat G w H) (hrk : Rd 1 kv (ks.map int) H) (hrv : Rd 1 vv (vs.map int) H) (hl : ks.length = vs.length) (h8 : ks.length < 65536)
    (hk : ∀ v' Hv' w', Own 151 2 v' ((ks.zip vs).flatMap pr) Hv' → Sat G w' (Hv' ++ H) → k v' w') : call Tryz.prog w 155 [.agg #[int lv, kv, vv]] k := by
  refine b_node_Node_pairs_walk ?_
  unfold b_node_Node_pairs
  refine boxA_r (cs := [int lv, kv, vv]) hs fun b w hs => ?_
  refine add_r (ld_r hs (.head _) rfl ?_)
  refine hrk.len ks.length (by simp) (by decide) ?_
  refine loop_r (fun c vs' w => ∃ (i : Nat) (v' : Value) (Hv' : List Blk), i ≤ ks.length ∧ vs' = [v', int i] ∧ c = ks.length - i ∧ Own 151 2 v' (((ks.zip vs).take i).flatMap pr) Hv' ∧ Sat G w (Hv' ++ ((b, row 119 [int lv, kv, vv]) :: H))) ks.length ⟨0, _, [], by omega, rfl, rfl, .nil, hs⟩ ?_
  rintro J c vs' w next ⟨i, v', Hv', hi, rfl, rfl, ho, hs⟩ hnext
  have hzl : (ks.zip vs).length = ks.length := by simp; omega
  refine bin_lss (Br_d (fun h => ?_) (fun h => ?_))
  · have hi' : i < ks.length := by
      have : (i : Int) < ks.length := h
      omega
    have hm : ∀ p ∈ H, p ∈ Hv' ++ ((b, row 119 [int lv, kv, vv]) :: H) := fun p hp => List.mem_append_right _ (.tail _ hp)
    refine (hrk.mono hm).ld1 hs hi' ?_
    refine add_r (ld_r hs (List.mem_append_right _ (.head _)) rfl ?_)
    refine (hrv.mono hm).ld1 hs (show i < vs.length by omega) ?_
    refine bld_r (zero := [int 0, int 0]) (cs := [int ks[i], int vs[i]]) rfl ?_
    have hlen : (((ks.zip vs).take i).flatMap pr).length = i * 2 := by
      rw [flat_len (size := 2) fun _ _ => rfl, List.length_take, hzl, Nat.min_eq_left hi]
    refine appA_r (cs := [int ks[i], int vs[i]]) hs ho .here rfl rfl (by simp [Value.oneCell']) (by decide) (by decide) (by decide) (by omega) fun v2 Hv2 w ho2 hs => ?_
    refine bin_add (by omega) (by omega) ?_
    refine hnext (ks.length - (i + 1)) _ _ (by omega) ⟨i + 1, v2, Hv2, by omega, rfl, rfl, ?_, hs⟩
    have : (ks.zip vs).take (i + 1) = (ks.zip vs).take i ++ [(ks[i], vs[i])] := by
      rw [List.take_add_one, List.getElem?_eq_getElem (by omega)]
      simp
    rw [this, List.flatMap_append]
    simpa using ho2
  · have hi' : i = ks.length := by
      have : ¬ (i : Int) < ks.length := h
      omega
    rw [hi', ← hzl, List.take_length] at ho
    exact hk _ _ _ ho ((hs.perm List.perm_middle).tail)
/-- is the node right? -/
def ndOk (lv : Int) (ks vs : List Int) : Bool := decide (0 ≤ lv ∧ lv ≤ 20 ∧ ks.length = vs.length ∧ 1 ≤ ks.length ∧ ks.length ≤ 7) && ordP (ks.zip vs)
theorem node_Check {lv : Int} {kv vv : Value} {ks vs : List Int} (hs : Sat G w H) (hrk : Rd 1 kv (ks.map int) H) (hrv : Rd 1 vv (vs.map int) H) (h8 : ks.length < 65536) (h9 : vs.length < 65536)
    (hk : ∀ w', Sat G w' H → k (if ndOk lv ks vs then .nilIface else .iface 149 (int 70)) w') : call Tryz.prog w 102 [.agg #[int lv, kv, vv]] k := by
  refine b_node_Node_Check_walk ?_
  unfold b_node_Node_Check
  refine boxA_r (cs := [int lv, kv, vv]) hs fun b w hs => ?_
  have hbad : ndOk lv ks vs = false → k (.iface 149 (int 70)) w := fun h => by
    have := hk _ hs.tail
    rw [h] at this; exact this
  have hf : ¬ (0 ≤ lv ∧ lv ≤ 20 ∧ ks.length = vs.length ∧ 1 ≤ ks.length ∧ ks.length ≤ 7) → ndOk lv ks vs = false := fun h => by
    unfold ndOk; rw [decide_eq_false h]; rfl
  refine add_r (ld_r hs (.head _) rfl (bin_lss (Br_d (fun h => hbad (hf (by omega))) (fun h1 => ?_))))
  refine add_r (ld_r hs (.head _) rfl (bin_gtr (Br_d (fun h => hbad (hf (by omega))) (fun h2 => ?_))))
  refine add_r (ld_r hs (.head _) rfl ?_)
  refine hrk.len ks.length (by simp) (by decide) ?_
  refine add_r (ld_r hs (.head _) rfl ?_)
  refine hrv.len vs.length (by simp) (by decide) ?_
  refine bin_neq (Br_ne (fun h => hbad (hf (by omega))) (fun h3 => ?_))
  refine add_r (ld_r hs (.head _) rfl ?_)
  refine hrk.len ks.length (by simp) (by decide) ?_
  refine bin_lss (Br_d (fun h => hbad (hf (by omega))) (fun h4 => ?_))
  refine add_r (ld_r hs (.head _) rfl ?_)
  refine hrk.len ks.length (by simp) (by decide) ?_
  refine bin_gtr (Br_d (fun h => hbad (hf (by omega))) (fun h5 => ?_))
  refine ldN_r (vs := [int lv, kv, vv]) hs (.head _) rfl rfl ?_
  have hm : ∀ p ∈ H, p ∈ (b, row 119 [int lv, kv, vv]) :: H := fun p hp => .tail _ hp
  refine node_pairs hs (hrk.mono hm) (hrv.mono hm) (by omega) h8 fun v' Hv' w ho hs => ?_
  refine node_ordered hs (ho.rd fun p hp => List.mem_append_left _ hp) (by simp; omega) fun w hs => ?_
  have e : ndOk lv ks vs = ordP (ks.zip vs) := by
    unfold ndOk
    rw [decide_eq_true (by omega), Bool.true_and]
  rw [e] at hk
  refine un_not (Br_r (fun h => ?_) (fun h => ?_))
  · have h : ordP (ks.zip vs) = false := by simpa using h
    rw [h] at hk; exact hk _ hs.drop.tail
  · have h : ordP (ks.zip vs) = true := by simpa using h
    rw [h] at hk; exact hk _ hs.drop.tail
end
end Go.Proofs.YtemenmmekddjaaaGreatDoor
end
section
namespace Go.Proofs.YtemenmmekddjaaaGreatDoor
open Go Go.Wx Go.W
variable {ω : Go.W.Origin}
section
variable {G H R Hb Hd : List Blk} {w : World} {k : K} {b : Nat}
theorem node_of {lv : Int} {kv vv v : Value} {l : List Pr} (hs : Sat G w H) (hr : Rd 2 v (l.flatMap pr) H) (h8 : l.length < 65536)
    (hk : ∀ kv' vv' H1 H2 w', Own 3 1 kv' ((l.map Prod.fst).map int) H1 → Own 3 1 vv' ((l.map Prod.snd).map int) H2 → Sat G w' (H1 ++ (H2 ++ H)) → k (.agg #[int lv, kv', vv']) w') : call Tryz.prog w 178 [.agg #[int lv, kv, vv], v] k := by
  refine b_node_Node_of_walk ?_
  unfold b_node_Node_of
  refine boxA_r (cs := [int lv, kv, vv]) hs fun b2 w hs => ?_
  refine new_r (cs := [int 0, .slice none 0 0, .slice none 0 0]) hs fun b4 w hs => ?_
  refine add_r (ld_r hs (.tail _ (.head _)) rfl ?_)
  refine bld_r (zero := [int 0, .slice none 0 0, .slice none 0 0]) (cs := [int lv, .slice none 0 0, .slice none 0 0]) rfl ?_
  refine new_r (cs := [int 0, .slice none 0 0, .slice none 0 0]) hs fun b5 w hs => ?_
  refine stN_r (vs := [int lv, .slice none 0 0, .slice none 0 0]) hs .head rfl (by simp) (by simp [Value.oneCell']) fun w hs => ?_
  have hs : Sat G w ((b5, row 119 [int lv, .slice none 0 0, .slice none 0 0]) :: (b4, row 119 [int 0, .slice none 0 0, .slice none 0 0]) :: (b2, row 119 [int lv, kv, vv]) :: H) := hs
  refine hr.len l.length (flat_len fun _ _ => rfl) (by decide) ?_
  refine loop_r (fun c vs' w => ∃ (i : Nat) (kv' vv' : Value) (H1 H2 : List Blk), i ≤ l.length ∧ vs' = [int i] ∧ c = l.length - i ∧ Own 3 1 kv' (((l.take i).map Prod.fst).map int) H1 ∧ Own 3 1 vv' (((l.take i).map Prod.snd).map int) H2 ∧
      Sat G w ((b5, row 119 [int lv, kv', vv']) :: (b4, row 119 [int 0, .slice none 0 0, .slice none 0 0]) :: (H1 ++ (H2 ++ H)))) l.length ⟨0, .slice none 0 0, .slice none 0 0, [], [], by omega, rfl, rfl, .nil, .nil, (hs.perm (H' := (b2, row 119 [int lv, kv, vv]) :: (b5, row 119 [int lv, .slice none 0 0, .slice none 0 0]) :: (b4, row 119 [int 0, .slice none 0 0, .slice none 0 0]) :: ([] ++ ([] ++ H))) (by refine perm_of_cnt fun a => ?_; simp only [cnt_app, cnt_cons, cnt_nil] at *; omega)).tail⟩ ?_
  rintro J c vs' w next ⟨i, kv', vv', H1, H2, hi, rfl, rfl, ho1, ho2, hs⟩ hnext
  refine bin_lss (Br_d (fun h => ?_) (fun h => ?_))
  · have hi' : i < l.length := by
      have : (i : Int) < l.length := h
      omega
    have hm : ∀ p ∈ H, p ∈ (b5, row 119 [int lv, kv', vv']) :: (b4, row 119 [int 0, .slice none 0 0, .slice none 0 0]) :: (H1 ++ (H2 ++ H)) := fun p hp => by simp [hp]
    refine (hr.mono hm).ldN hs (fun _ _ => rfl) (by decide) hi' ?_
    refine new_r (cs := [int 0, int 0]) hs fun b7 w hs => ?_
    refine stN_r (vs := pr l[i]) hs .head rfl (by simp) (by simp [Value.oneCell']) fun w hs => ?_
    have hs : Sat G w ((b7, row 151 (pr l[i])) :: (b5, row 119 [int lv, kv', vv']) :: (b4, row 119 [int 0, .slice none 0 0, .slice none 0 0]) :: (H1 ++ (H2 ++ H))) := hs
    refine add_r (ld_r hs (.tail _ (.head _)) rfl (add_r (ld_r hs (.head _) rfl ?_)))
    have et : l.take (i + 1) = l.take i ++ [l[i]] := by rw [List.take_add_one, List.getElem?_eq_getElem hi']; rfl
    refine app1_r hs ho1 (.cons (.cons (.cons .here))) rfl (by decide) (by simp; omega) fun kv2 K1 w ho1 hs => ?_
    have hs := hs.perm (H' := (b5, row 119 [int lv, kv', vv']) :: (b7, row 151 (pr l[i])) :: (b4, row 119 [int 0, .slice none 0 0, .slice none 0 0]) :: (K1 ++ (H2 ++ H))) (by refine perm_of_cnt fun a => ?_; simp only [cnt_app, cnt_cons, cnt_nil] at *; omega)
    refine add_r (st_r hs .head (by simp) ho1.one fun w hs => ?_)
    have hs : Sat G w ((b5, row 119 [int lv, kv2, vv']) :: (b7, row 151 (pr l[i])) :: (b4, row 119 [int 0, .slice none 0 0, .slice none 0 0]) :: (K1 ++ (H2 ++ H))) := hs
    refine add_r (ld_r hs (.head _) rfl (add_r (ld_r hs (.tail _ (.head _)) rfl ?_)))
    refine app1_r hs ho2 (.cons (.cons (.cons (.app .here)))) rfl (by decide) (by simp; omega) fun vv2 K2 w ho2 hs => ?_
    have hs := hs.perm (H' := (b5, row 119 [int lv, kv2, vv']) :: (b7, row 151 (pr l[i])) :: (b4, row 119 [int 0, .slice none 0 0, .slice none 0 0]) :: (K1 ++ (K2 ++ H))) (by refine perm_of_cnt fun a => ?_; simp only [cnt_app, cnt_cons, cnt_nil] at *; omega)
    refine add_r (st_r hs .head (by simp) ho2.one fun w hs => ?_)
    have hs : Sat G w ((b5, row 119 [int lv, kv2, vv2]) :: (b7, row 151 (pr l[i])) :: (b4, row 119 [int 0, .slice none 0 0, .slice none 0 0]) :: (K1 ++ (K2 ++ H))) := hs
    refine bin_add (by omega) (by omega) ?_
    exact hnext (l.length - (i + 1)) _ _ (by omega) ⟨i + 1, kv2, vv2, K1, K2, by omega, rfl, rfl, by rw [et, List.map_append, List.map_append]; exact ho1, by rw [et, List.map_append, List.map_append]; exact ho2, (hs.perm (.swap _ _ _)).tail⟩
  · have hi' : i = l.length := by
      have : ¬ (i : Int) < l.length := h
      omega
    subst hi'
    rw [List.take_length] at ho1 ho2
    refine ldN_r (vs := [int lv, kv', vv']) hs (.head _) rfl rfl ?_
    refine stN_r (vs := [int lv, kv', vv']) hs (.cons .head) rfl (by simp) (fun y hy => by
      simp only [List.mem_cons, List.not_mem_nil, or_false] at hy
      rcases hy with rfl | rfl | rfl
      · rfl
      · exact ho1.one
      · exact ho2.one) fun w hs => ?_
    refine ldN_r (vs := [int lv, kv', vv']) hs (.tail _ (.head _)) rfl rfl ?_
    exact hk _ _ _ _ _ ho1 ho2 hs.tail.tail
end
end Go.Proofs.YtemenmmekddjaaaGreatDoor
end
section
namespace Go.Proofs.YtemenmmekddjaaaGreatDoor
open Go Go.Wx Go.W
variable {ω : Go.W.Origin}
section
variable {G H R Hb : List Blk} {w : World} {k : K}
theorem nan_int {x : Int} (hk : k (.bool false) w) : bin w .neq (int x) (int x) k := by
  refine bin_neq ?_
  have : (x != x) = false := by simp
  rw [this]; exact hk
theorem cmp_Less {a b : Int} (hk : k (.bool (decide (a < b))) w) : call Tryz.prog w 206 [int a, int b] k := by
  refine b_cmp_Less_int_walk ?_
  unfold b_cmp_Less_int
  refine b_cmp_isNaN_int_walk ?_
  unfold b_cmp_isNaN_int
  exact nan_int (Br_f (bin_lss hk))
theorem slices_BinarySearch {l : List Int} {v : Value} {x : Int} (hs : Sat G w H) (hr : Rd 1 v (l.map int) H) (hl : l.length < 65536) (hsort : l.Pairwise (· < ·))
    (hk : ∀ i : Nat, i ≤ l.length → (∀ j (h : j < l.length), j < i → l[j] < x) → (∀ j (h : j < l.length), i ≤ j → x ≤ l[j]) → k (.tuple #[int i, .bool (decide (l[i]? = some x))]) w) : call Tryz.prog w 173 [v, int x] k := by
  refine b_slices_BinarySearch_int_int_walk ?_
  unfold b_slices_BinarySearch_int_int
  have hmono : ∀ i j (hi : i < l.length) (hj : j < l.length), i ≤ j → l[i] ≤ l[j] := by
    intro i j hi hj hij
    rcases Nat.lt_or_ge i j with h | h
    · exact Int.le_of_lt (List.pairwise_iff_getElem.1 hsort i j hi hj h)
    · obtain rfl : i = j := by omega
      exact Int.le_refl _
  refine hr.len l.length (by simp) (by decide) ?_
  refine loop_r (fun c vs w' => w' = w ∧ ∃ i j : Nat, i ≤ j ∧ j ≤ l.length ∧ vs = [int i, int j] ∧ c = j - i ∧ (∀ m (h : m < l.length), m < i → l[m] < x) ∧ (∀ m (h : m < l.length), j ≤ m → x ≤ l[m])) l.length ⟨rfl, 0, l.length, by omega, by omega, rfl, rfl, fun m h h2 => by omega, fun m h h2 => by omega⟩ ?_
  rintro J c vs w' next ⟨rfl, i, j, hij, hj, rfl, rfl, hlo, hhi⟩ hnext
  refine bin_lss (Br_d (fun h => ?_) (fun h => ?_))
  · have hij' : i < j := by
      have : (i : Int) < j := h
      omega
    refine bin_add (by omega) (by omega) (conv_r ?_)
    have e1 : IntKind.u64.wrap ((i : Int) + (j : Int)) = ((i + j : Nat) : Int) := by
      simp [IntKind.wrap, IntKind.signed, IntKind.bits]
      omega
    rw [e1]
    refine ⟨.int .u64 (((i + j) / 2 : Nat) : Int), ?_, ?_⟩
    · simp only [intBin]
      rw [if_neg (by decide)]
      congr 2
      show ((i + j : Nat) : Int).fdiv (2 ^ min 1 64) = _
      rw [Int.fdiv_eq_ediv_of_nonneg _ (by decide)]
      show ((i + j : Nat) : Int) / 2 = _
      omega
    refine conv_r ?_
    rw [wrap64_in (by omega) (by omega)]
    have hm : (i + j) / 2 < l.length := by omega
    refine hr.ld1 hs hm (cmp_Less (Br_d (fun h1 => ?_) (fun h1 => ?_)))
    · refine bin_add (by omega) (by omega) ?_
      refine hnext (j - ((i + j) / 2 + 1)) _ _ (by omega) ⟨rfl, (i + j) / 2 + 1, j, by omega, hj, rfl, rfl, fun m h h2 => ?_, hhi⟩
      exact Int.lt_of_le_of_lt (hmono m _ h hm (by omega)) h1
    · refine hnext ((i + j) / 2 - i) _ _ (by omega) ⟨rfl, i, (i + j) / 2, by omega, by omega, rfl, rfl, hlo, fun m h h2 => ?_⟩
      exact Int.le_trans (by omega) (hmono _ m hm h h2)
  · have hij' : i = j := by
      have : ¬ (i : Int) < j := h
      omega
    subst hij'
    have hk := hk i hj hlo hhi
    refine bin_lss (Br_d (fun h1 => ?_) (fun h1 => ?_))
    · have h1 : i < l.length := by
        have : (i : Int) < l.length := h1
        omega
      rw [List.getElem?_eq_getElem h1] at hk
      refine hr.ld1 hs h1 (bin_eql (Br_eq (fun h2 => ?_) (fun h2 => ?_)))
      · rw [h2] at hk; simpa using hk
      · refine hr.ld1 hs h1 ?_
        refine b_slices_isNaN_int_walk ?_
        unfold b_slices_isNaN_int
        refine nan_int (Br_f ?_)
        have : decide (some l[i] = some x) = false := by simpa using h2
        rw [this] at hk; exact hk
    · have h1 : l.length ≤ i := by
        have : ¬ (i : Int) < l.length := h1
        omega
      rw [List.getElem?_eq_none h1] at hk
      simpa using hk
end
end Go.Proofs.YtemenmmekddjaaaGreatDoor
end
