/- What the functions of package roster do. No condition. -/
import Derived.Test.YtemenmmekddjaaaGreatDoorJ12
import Derived.Test.YtemenmmekddjaaaGreatDoorJ17
set_option linter.all false
set_option linter.unusedVariables false
set_option linter.unusedSimpArgs false
set_option linter.unnecessarySimpa false
set_option linter.unusedSectionVars false
set_option linter.constructorNameAsVariable false
namespace Go.Proofs.YtemenmmekddjaaaGreatDoor
open Go Go.Wx Go.W
variable {ω : Go.W.Origin}
/-- an entry of the roster: state, size. -/
abbrev Ent := Int × Int
abbrev ent (e : Ent) : List Value := [int e.1, int e.2]
def entOk (e : Ent) : Bool := decide (((e.1 = 1 ∨ e.1 = 2) ∧ 2 < e.2 ∨ e.1 = 3) ∧ 0 ≤ e.2 ∧ e.2 ≤ 4096)
def rosOk (l : List Ent) : Bool := decide (l.length ≤ 8) && l.all entOk
section
variable {G H R Hb : List Blk} {w : World} {k : K}
theorem roster_right {e : Ent} (hs : Sat G w H) (hk : ∀ w', Sat G w' H → k (.bool (entOk e)) w') : call Tryz.prog w 139 [.agg (ent e).toArray] k := by
  refine b_roster_Entry_right_walk ?_
  unfold b_roster_Entry_right
  refine boxA_r hs fun b w hs => ?_
  have hj2 : (e.1 = 1 ∨ e.1 = 2) ∧ 2 < e.2 ∨ e.1 = 3 → b_roster_Entry_rightj2 (ptr b) k w := by
    intro h
    unfold b_roster_Entry_rightj2
    (repeat (first | refine nn_r ?_ | refine add_r ?_ | refine ld_r (by assumption) (by repeat (first | exact List.Mem.head _ | apply List.Mem.tail | apply List.mem_append_right)) rfl ?_ | refine ldG_r (by assumption) (by repeat (first | exact List.Mem.head _ | apply List.Mem.tail | apply List.mem_append_right)) rfl ?_ | refine tup_r rfl ?_ | refine len_r ?_ | refine cap_r ?_ | refine draw_r (by assumption) fun w hs => ?_ | refine drawS_r (fun w => Sat _ w _) (by assumption) fun w hs => ?_ | refine held_ld (by assumption) (by repeat (first | exact List.Mem.head _ | apply List.Mem.tail | apply List.mem_append_right)) rfl ?_))
    refine bin_geq (Br_d (fun h1 => ?_) (fun h1 => ?_))
    · (repeat (first | refine nn_r ?_ | refine add_r ?_ | refine ld_r (by assumption) (by repeat (first | exact List.Mem.head _ | apply List.Mem.tail | apply List.mem_append_right)) rfl ?_ | refine ldG_r (by assumption) (by repeat (first | exact List.Mem.head _ | apply List.Mem.tail | apply List.mem_append_right)) rfl ?_ | refine tup_r rfl ?_ | refine len_r ?_ | refine cap_r ?_ | refine draw_r (by assumption) fun w hs => ?_ | refine drawS_r (fun w => Sat _ w _) (by assumption) fun w hs => ?_ | refine held_ld (by assumption) (by repeat (first | exact List.Mem.head _ | apply List.Mem.tail | apply List.mem_append_right)) rfl ?_))
      refine bin_leq ?_
      have : decide (e.2 ≤ 4096) = entOk e := by
        unfold entOk; apply decide_eq_decide.2; exact ⟨fun h2 => ⟨h, h1, h2⟩, fun h2 => h2.2.2⟩
      rw [this]; exact hk _ hs.tail
    · have : false = entOk e := by
        unfold entOk; symm; apply decide_eq_false; rintro ⟨_, h2, _⟩; exact h1 h2
      rw [this]; exact hk _ hs.tail
  have hj1 : ∀ t : Bool, (t = true ↔ e.1 = 1 ∨ e.1 = 2) → b_roster_Entry_rightj1 (ptr b) (int e.1) (.bool t) k w := by
    intro t ht
    unfold b_roster_Entry_rightj1
    refine Br_r (fun h => ?_) (fun h => ?_)
    · have h := ht.1 h
      (repeat (first | refine nn_r ?_ | refine add_r ?_ | refine ld_r (by assumption) (by repeat (first | exact List.Mem.head _ | apply List.Mem.tail | apply List.mem_append_right)) rfl ?_ | refine ldG_r (by assumption) (by repeat (first | exact List.Mem.head _ | apply List.Mem.tail | apply List.mem_append_right)) rfl ?_ | refine tup_r rfl ?_ | refine len_r ?_ | refine cap_r ?_ | refine draw_r (by assumption) fun w hs => ?_ | refine drawS_r (fun w => Sat _ w _) (by assumption) fun w hs => ?_ | refine held_ld (by assumption) (by repeat (first | exact List.Mem.head _ | apply List.Mem.tail | apply List.mem_append_right)) rfl ?_))
      refine bin_leq (Br_d (fun h1 => ?_) (fun h1 => ?_))
      · have : false = entOk e := by
          unfold entOk; symm; apply decide_eq_false; omega
        rw [this]; exact hk _ hs.tail
      · exact hj2 (.inl ⟨h, by omega⟩)
    · refine bin_eql (Br_eq (fun h1 => hj2 (.inr h1)) (fun h1 => ?_))
      have h : ¬ (e.1 = 1 ∨ e.1 = 2) := fun h2 => by rw [ht.2 h2] at h; cases h
      have : false = entOk e := by
        unfold entOk; symm; apply decide_eq_false; omega
      rw [this]; exact hk _ hs.tail
  (repeat (first | refine nn_r ?_ | refine add_r ?_ | refine ld_r (by assumption) (by repeat (first | exact List.Mem.head _ | apply List.Mem.tail | apply List.mem_append_right)) rfl ?_ | refine ldG_r (by assumption) (by repeat (first | exact List.Mem.head _ | apply List.Mem.tail | apply List.mem_append_right)) rfl ?_ | refine tup_r rfl ?_ | refine len_r ?_ | refine cap_r ?_ | refine draw_r (by assumption) fun w hs => ?_ | refine drawS_r (fun w => Sat _ w _) (by assumption) fun w hs => ?_ | refine held_ld (by assumption) (by repeat (first | exact List.Mem.head _ | apply List.Mem.tail | apply List.mem_append_right)) rfl ?_))
  refine bin_eql (Br_eq (fun h => ?_) (fun h => ?_))
  · exact hj1 _ (by simp [h])
  · refine bin_eql ?_
    exact hj1 _ (by simp; omega)
theorem slices_IndexFunc_ent {l : List Ent} {v fv : Value} {p : Ent → Bool} (hs : Sat G w H) (hr : Rd 2 v (l.flatMap ent) (G ++ H)) (hlen : l.length < 4611686018427387904)
    (hc : ∀ x ∈ l, ∀ w kk, Sat G w H → (∀ w', Sat G w' H → kk (.bool (p x)) w') → callV Tryz.prog w fv [.agg (ent x).toArray] kk)
    (hk : ∀ i : Int, (0 ≤ i ↔ l.any p = true) → -1 ≤ i → ∀ w', Sat G w' H → k (int i) w') : call Tryz.prog w 181 [v, fv] k := by
  refine b_slices_IndexFunc_roster_Entry_roster_Entry_walk ?_
  unfold b_slices_IndexFunc_roster_Entry_roster_Entry
  refine hr.len l.length (flat_len fun _ _ => rfl) (by decide) ?_
  refine loop_r (fun n vs w => ∃ i : Nat, vs = [int i] ∧ n = l.length - i ∧ i ≤ l.length ∧ (l.take i).any p = false ∧ Sat G w H) l.length ⟨0, rfl, rfl, by omega, by simp, hs⟩ ?_
  rintro J n vs w next ⟨i, rfl, rfl, hi, hnone, hs⟩ hnext
  refine bin_lss (Br_d (fun h => ?_) (fun h => ?_))
  · have hi' : i < l.length := by exact_mod_cast h
    refine hr.ldN hs.whole (fun _ _ => rfl) (by decide) hi' ?_
    refine hc _ (List.getElem_mem _) w _ hs fun w hs => ?_
    refine Br_r (fun hp => ?_) (fun hp => ?_)
    · refine hk i ⟨fun _ => List.any_eq_true.2 ⟨_, List.getElem_mem hi', hp⟩, fun _ => by omega⟩ (by omega) _ hs
    · refine bin_add (by omega) (by omega) ?_
      refine hnext (l.length - (i + 1)) _ _ (by omega) ⟨i + 1, rfl, rfl, by omega, ?_, hs⟩
      rw [List.take_add_one, List.any_append, hnone, List.getElem?_eq_getElem hi']
      simp [hp]
  · have hi' : i = l.length := by have : ¬ i < l.length := by exact_mod_cast h
                                  omega
    subst hi'
    refine hk (-1) ⟨fun h => by omega, fun h => ?_⟩ (by omega) _ hs
    rw [List.take_length] at hnone
    rw [hnone] at h; cases h
theorem slices_ContainsFunc_ent {l : List Ent} {v fv : Value} {p : Ent → Bool} (hs : Sat G w H) (hr : Rd 2 v (l.flatMap ent) (G ++ H)) (hlen : l.length < 4611686018427387904)
    (hc : ∀ x ∈ l, ∀ w kk, Sat G w H → (∀ w', Sat G w' H → kk (.bool (p x)) w') → callV Tryz.prog w fv [.agg (ent x).toArray] kk)
    (hk : ∀ w', Sat G w' H → k (.bool (l.any p)) w') : call Tryz.prog w 137 [v, fv] k := by
  refine b_slices_ContainsFunc_roster_Entry_roster_Entry_walk ?_
  unfold b_slices_ContainsFunc_roster_Entry_roster_Entry
  refine slices_IndexFunc_ent hs hr hlen hc fun i hi _ w hs => ?_
  refine bin_geq ?_
  have : decide (i ≥ 0) = l.any p := by
    cases h : l.any p with
    | true => simpa using hi.2 h
    | false => simp only [h] at hi; simpa using hi
  rw [this]; exact hk _ hs
theorem roster_Check {l : List Ent} {v : Value} (hs : Sat G w H) (hr : Rd 2 v (l.flatMap ent) (G ++ H)) (hlen : l.length < 4611686018427387904)
    (hk : ∀ w', Sat G w' H → k (if rosOk l then .nilIface else .iface 149 (int 14)) w') : call Tryz.prog w 89 [.agg #[v]] k := by
  refine b_roster_Roster_Check_walk ?_
  unfold b_roster_Roster_Check
  refine boxA_r (cs := [v]) hs fun b w hs => ?_
  (repeat (first | refine nn_r ?_ | refine add_r ?_ | refine ld_r (by assumption) (by repeat (first | exact List.Mem.head _ | apply List.Mem.tail | apply List.mem_append_right)) rfl ?_ | refine ldG_r (by assumption) (by repeat (first | exact List.Mem.head _ | apply List.Mem.tail | apply List.mem_append_right)) rfl ?_ | refine tup_r rfl ?_ | refine len_r ?_ | refine cap_r ?_ | refine draw_r (by assumption) fun w hs => ?_ | refine drawS_r (fun w => Sat _ w _) (by assumption) fun w hs => ?_ | refine held_ld (by assumption) (by repeat (first | exact List.Mem.head _ | apply List.Mem.tail | apply List.mem_append_right)) rfl ?_))
  refine hr.len l.length (flat_len fun _ _ => rfl) (by decide) ?_
  refine bin_gtr (Br_d (fun h => ?_) (fun h => ?_))
  · have : rosOk l = false := by unfold rosOk; simp; omega
    rw [this] at hk; exact hk _ hs.tail
  · (repeat (first | refine nn_r ?_ | refine add_r ?_ | refine ld_r (by assumption) (by repeat (first | exact List.Mem.head _ | apply List.Mem.tail | apply List.mem_append_right)) rfl ?_ | refine ldG_r (by assumption) (by repeat (first | exact List.Mem.head _ | apply List.Mem.tail | apply List.mem_append_right)) rfl ?_ | refine tup_r rfl ?_ | refine len_r ?_ | refine cap_r ?_ | refine draw_r (by assumption) fun w hs => ?_ | refine drawS_r (fun w => Sat _ w _) (by assumption) fun w hs => ?_ | refine held_ld (by assumption) (by repeat (first | exact List.Mem.head _ | apply List.Mem.tail | apply List.mem_append_right)) rfl ?_))
    refine slices_ContainsFunc_ent (p := fun e => !entOk e) hs hr.more hlen (fun e _ w kk hs hk => ?_) fun w hs => ?_
    · refine callV_r (first := []) (cap := []) (by kernel_rfl) ?_
      refine b_roster_Roster_Check_c1_walk ?_
      unfold b_roster_Roster_Check_c1
      refine boxA_r (cs := ent e) hs fun b' w hs => ?_
      refine ldN_r (vs := ent e) hs (.head _) rfl rfl ?_
      refine roster_right hs fun w hs => ?_
      refine un_not ?_
      exact hk _ hs.tail
    · have e1 : rosOk l = !(l.any fun e => !entOk e) := by
        unfold rosOk
        rw [show decide (l.length ≤ 8) = true by simp; omega, Bool.true_and]
        rw [List.all_eq_not_any_not]
      refine Br_r (fun h => ?_) (fun h => ?_)
      · rw [e1, h] at hk; exact hk _ hs.tail
      · rw [e1, h] at hk; exact hk _ hs.tail
theorem fm_congr {α β : Type} {l : List α} {f g : α → Option β} (h : ∀ x ∈ l, f x = g x) : l.filterMap f = l.filterMap g := by
  induction l with
  | nil => rfl
  | cons a l ih => rw [List.filterMap_cons, List.filterMap_cons, h a (by simp), ih fun x hx => h x (by simp [hx])]
/-- the numbers of the entries that are right for p. -/
def those (p : Ent → Bool) (l : List Ent) : List Int := (List.range l.length).filterMap fun i => if p (l.getD i (0, 0)) then some (i : Int) else none
theorem roster_Actives {l : List Ent} {v : Value} (hs : Sat G w H) (hr : Rd 2 v (l.flatMap ent) (G ++ H)) (hok : rosOk l = true)
    (hk : ∀ v' Hv' w', Own 3 1 v' ((those (fun e => e.1 == 1) l).map int) Hv' → Sat G w' (Hv' ++ H) → k v' w') : call Tryz.prog w 65 [.agg #[v]] k := by
  refine b_roster_Roster_Actives_walk ?_
  unfold b_roster_Roster_Actives
  have hlen : l.length ≤ 8 := by unfold rosOk at hok; simp at hok; exact hok.1
  refine boxA_r (cs := [v]) hs fun b w hs => ?_
  refine ldN_r (vs := [v]) hs (.head _) rfl rfl ?_
  refine b_roster_Roster_those_walk ?_
  unfold b_roster_Roster_those
  refine boxA_r (cs := [v]) hs fun b1 w hs => ?_
  (repeat (first | refine nn_r ?_ | refine add_r ?_ | refine ld_r (by assumption) (by repeat (first | exact List.Mem.head _ | apply List.Mem.tail | apply List.mem_append_right)) rfl ?_ | refine ldG_r (by assumption) (by repeat (first | exact List.Mem.head _ | apply List.Mem.tail | apply List.mem_append_right)) rfl ?_ | refine tup_r rfl ?_ | refine len_r ?_ | refine cap_r ?_ | refine draw_r (by assumption) fun w hs => ?_ | refine drawS_r (fun w => Sat _ w _) (by assumption) fun w hs => ?_ | refine held_ld (by assumption) (by repeat (first | exact List.Mem.head _ | apply List.Mem.tail | apply List.mem_append_right)) rfl ?_))
  refine hr.len l.length (flat_len fun _ _ => rfl) (by decide) ?_
  refine loop_r (fun n vs w => ∃ (i : Nat) (v' : Value) (Hv' X : List Blk), i ≤ l.length ∧ vs = [v', int i] ∧ n = l.length - i ∧ Own 3 1 v' ((those (fun e => e.1 == 1) (l.take i)).map int) Hv' ∧ Sat G w (Hv' ++ (X ++ ((b1, row 66 [v]) :: H)))) l.length ⟨0, _, [], [(b, row 66 [v])], by omega, rfl, rfl, .nil, hs.perm (.swap _ _ _)⟩ ?_
  rintro J n vs w next ⟨i, v', Hv', X, hi, rfl, rfl, ho, hs⟩ hnext
  refine bin_lss (Br_d (fun h => ?_) (fun h => ?_))
  · have hi' : i < l.length := by exact_mod_cast h
    have hrd : Rd 2 v (l.flatMap ent) (G ++ (Hv' ++ (X ++ ((b1, row 66 [v]) :: H)))) := hr.sub fun p hp => List.mem_append_right _ (List.mem_append_right _ (.tail _ hp))
    refine hrd.ldN hs.whole (fun _ _ => rfl) (by decide) hi' ?_
    refine new_r (cs := [int 0, int 0]) hs fun b2 w hs => ?_
    refine stN_r (vs := ent l[i]) hs .head rfl (by simp) (by simp [Value.oneCell']) fun w hs => ?_
    refine ldN_r (vs := [v]) hs (by repeat (first | exact List.Mem.head _ | apply List.Mem.tail | apply List.mem_append_right)) rfl rfl ?_
    refine roster_Check hs hrd.more (by omega) fun w hs => ?_
    rw [hok, if_pos rfl]
    refine eq_nn (Br_t ?_)
    have e0 : (l.take (i + 1)) = l.take i ++ [l[i]] := by rw [List.take_add_one, List.getElem?_eq_getElem hi']; rfl
    have hth : those (fun e => e.1 == 1) (l.take (i + 1)) = those (fun e => e.1 == 1) (l.take i) ++ (if l[i].1 == 1 then [(i : Int)] else []) := by
      have hl : (l.take i).length = i := by simp; omega
      unfold those
      rw [e0, List.length_append, hl, List.length_singleton, List.range_succ, List.filterMap_append]
      congr 1
      · apply fm_congr
        intro j hj
        have hj := List.mem_range.1 hj
        have e2 : (l.take i ++ [l[i]]).getD j (0, 0) = (l.take i).getD j (0, 0) := by
          simp only [List.getD]
          rw [List.getElem?_append_left (by omega)]
        simp only [e2]
      · have : (l.take i ++ [l[i]])[i]? = some l[i] := by rw [List.getElem?_append_right (by omega), hl]; simp
        simp only [List.filterMap_cons, List.filterMap_nil, List.getD, this, Option.getD_some]
        cases l[i].1 == 1 <;> rfl
    refine ldN_r (vs := ent l[i]) hs (.head _) rfl rfl ?_
    refine callV_r (first := []) (cap := []) (by kernel_rfl) ?_
    refine b_roster_Roster_Actives_c1_walk ?_
    unfold b_roster_Roster_Actives_c1
    refine boxA_r (cs := ent l[i]) hs fun b3 w hs => ?_
    (repeat (first | refine nn_r ?_ | refine add_r ?_ | refine ld_r (by assumption) (by repeat (first | exact List.Mem.head _ | apply List.Mem.tail | apply List.mem_append_right)) rfl ?_ | refine ldG_r (by assumption) (by repeat (first | exact List.Mem.head _ | apply List.Mem.tail | apply List.mem_append_right)) rfl ?_ | refine tup_r rfl ?_ | refine len_r ?_ | refine cap_r ?_ | refine draw_r (by assumption) fun w hs => ?_ | refine drawS_r (fun w => Sat _ w _) (by assumption) fun w hs => ?_ | refine held_ld (by assumption) (by repeat (first | exact List.Mem.head _ | apply List.Mem.tail | apply List.mem_append_right)) rfl ?_))
    refine bin_eql ?_
    refine Br_r (fun h1 => ?_) (fun h1 => ?_)
    · refine app1_r hs.tail.tail ho .here rfl (by decide) ?_ fun v2 Hv2 w ho2 hs => ?_
      · rw [List.length_map]
        have : (those (fun e => e.1 == 1) (l.take i)).length ≤ (List.range (l.take i).length).length := List.length_filterMap_le _ _
        simp at this
        omega
      · refine bin_add (by omega) (by omega) ?_
        refine hnext (l.length - (i + 1)) _ _ (by omega) ⟨i + 1, v2, Hv2, X, by omega, rfl, rfl, ?_, hs⟩
        rw [hth, h1, if_pos rfl, List.map_append]; exact ho2
    · refine bin_add (by omega) (by omega) ?_
      refine hnext (l.length - (i + 1)) _ _ (by omega) ⟨i + 1, v', Hv', X, by omega, rfl, rfl, ?_, hs.tail.tail⟩
      rw [hth, h1]; simpa using ho
  · have hi' : i = l.length := by have : ¬ i < l.length := by exact_mod_cast h
                                  omega
    subst hi'
    rw [List.take_length] at ho
    refine hk _ _ _ ho ?_
    have := hs.perm (H' := Hv' ++ H ++ (X ++ [(b1, row 66 [v])])) ?_
    · exact this.keep
    · rw [List.append_assoc]
      refine List.Perm.append_left _ ?_
      refine List.Perm.trans ?_ List.perm_append_comm
      simp
end
end Go.Proofs.YtemenmmekddjaaaGreatDoor
