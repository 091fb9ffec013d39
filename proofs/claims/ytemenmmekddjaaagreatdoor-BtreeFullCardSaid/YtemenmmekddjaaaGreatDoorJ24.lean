/- What the functions of package node do: nodes as values, finding, cutting, putting. No condition. What the functions of package node do: a node's bytes. No condition. -/
import Derived.Test.YtemenmmekddjaaaGreatDoorJ17
import Derived.Test.YtemenmmekddjaaaGreatDoorJ18
import Derived.Test.YtemenmmekddjaaaGreatDoorJ22
import Derived.Test.YtemenmmekddjaaaGreatDoorJ23
set_option linter.all false
set_option linter.unusedVariables false
set_option linter.unusedSimpArgs false
set_option linter.unnecessarySimpa false
set_option linter.unusedSectionVars false
set_option linter.constructorNameAsVariable false
section
namespace Go.Proofs.YtemenmmekddjaaaGreatDoor
open Go Go.Wx Go.W
variable {ω : Go.W.Origin}
/-- the value of a node. -/
def NdV (v : Value) (n : Nd) (H : List Blk) : Prop := ∃ kv vv, v = .agg #[int n.lv, kv, vv] ∧ Rd 1 kv ((n.l.map Prod.fst).map int) H ∧ Rd 1 vv ((n.l.map Prod.snd).map int) H
abbrev ncells (e : Nd × Value × Value) : List Value := [int e.1.lv, e.2.1, e.2.2]
def NdE (e : Nd × Value × Value) (H : List Blk) : Prop := Rd 1 e.2.1 ((e.1.l.map Prod.fst).map int) H ∧ Rd 1 e.2.2 ((e.1.l.map Prod.snd).map int) H
/-- a slice of nodes. -/
def NsV (v : Value) (ns : List Nd) (H : List Blk) : Prop := ∃ es : List (Nd × Value × Value), ns = es.map Prod.fst ∧ Rd 3 v (es.flatMap ncells) H ∧ ∀ e ∈ es, NdE e H
section
variable {G H H' R Hb Hv : List Blk} {w : World} {k : K} {b : Nat}
theorem NdV.mono {v : Value} {n : Nd} (h : NdV v n H) (hm : ∀ p ∈ H, p ∈ H') : NdV v n H' := by
  obtain ⟨kv, vv, h1, h2, h3⟩ := h
  exact ⟨kv, vv, h1, h2.mono hm, h3.mono hm⟩
theorem NdE.mono {e : Nd × Value × Value} (h : NdE e H) (hm : ∀ p ∈ H, p ∈ H') : NdE e H' := ⟨h.1.mono hm, h.2.mono hm⟩
theorem NdE.v {e : Nd × Value × Value} (h : NdE e H) : NdV (.agg (ncells e).toArray) e.1 H := ⟨_, _, rfl, h.1, h.2⟩
theorem NsV.mono {v : Value} {ns : List Nd} (h : NsV v ns H) (hm : ∀ p ∈ H, p ∈ H') : NsV v ns H' := by
  obtain ⟨es, h1, h2, h3⟩ := h
  exact ⟨es, h1, h2.mono hm, fun e he => (h3 e he).mono hm⟩
theorem zip_self (l : List Pr) : (l.map Prod.fst).zip (l.map Prod.snd) = l := by
  induction l with
  | nil => rfl
  | cons e l ih => simp [ih]
theorem prOk_iff (e : Pr) : prOk e = true ↔ PrOk e := by unfold prOk PrOk; simp
theorem ordP_iff (l : List Pr) : ordP l = true ↔ RowOk l := by
  unfold ordP RowOk Srt
  rw [List.all_eq_true]
  constructor
  · intro h
    have h' : ∀ i (hi : i < l.length), PrOk l[i] ∧ (∀ h0 : 0 < i, (l[i - 1]'(by omega)).1 < l[i].1) := by
      intro i hi
      have := h i (List.mem_range.2 hi)
      unfold ordAt at this
      rw [Bool.and_eq_true] at this
      have e1 : l.getD i (0, 0) = l[i] := by simp [List.getD, hi]
      rw [e1] at this
      refine ⟨(prOk_iff _).1 this.1, fun h0 => ?_⟩
      have e2 : l.getD (i - 1) (0, 0) = l[i - 1]'(by omega) := by simp [List.getD, show i - 1 < l.length by omega]
      rw [e2] at this
      have h2 := this.2
      rw [Bool.or_eq_true] at h2
      rcases h2 with h2 | h2
      · simp at h2; omega
      · simpa using h2
    refine ⟨List.pairwise_iff_getElem.2 fun i j hi hj hij => ?_, fun e he => ?_⟩
    · have key : ∀ d (h : i + d + 1 < l.length), l[i].1 < (l[i + d + 1]'h).1 := by
        intro d
        induction d with
        | zero => intro h; exact (h' (i + 1) h).2 (by omega)
        | succ d ih =>
          intro h
          have h1 := ih (by omega)
          have h2 := (h' (i + d + 1 + 1) h).2 (by omega)
          exact Int.lt_trans h1 h2
      obtain ⟨d, rfl⟩ : ∃ d, j = i + d + 1 := ⟨j - i - 1, by omega⟩
      exact key d hj
    · obtain ⟨i, hi, rfl⟩ := List.getElem_of_mem he
      exact (h' i hi).1
  · rintro ⟨h1, h2⟩ i hi
    have hi := List.mem_range.1 hi
    unfold ordAt
    have e1 : l.getD i (0, 0) = l[i] := by simp [List.getD, hi]
    rw [e1, Bool.and_eq_true]
    refine ⟨(prOk_iff _).2 (h2 _ (List.getElem_mem hi)), ?_⟩
    cases i with
    | zero => rfl
    | succ i =>
      have e2 : l.getD (i + 1 - 1) (0, 0) = l[i] := by simp [List.getD, show i < l.length by omega]
      rw [e2]
      have := List.pairwise_iff_getElem.1 h1 i (i + 1) (by omega) hi (by omega)
      simpa using this
theorem NdOk.ndOk {n : Nd} (h : NdOk n) : ndOk n.lv (n.l.map Prod.fst) (n.l.map Prod.snd) = true := by
  unfold Go.Proofs.YtemenmmekddjaaaGreatDoor.ndOk
  rw [Bool.and_eq_true, zip_self]
  refine ⟨?_, (ordP_iff _).2 ⟨h.2.2.2.1, h.2.2.2.2⟩⟩
  have h1 := h.1; have h2 := h.2.1; have h3 := h.2.2.1
  simp; omega
theorem nd_Check {v : Value} {n : Nd} (hs : Sat G w H) (hv : NdV v n H) (hn : NdOk n) (hk : ∀ w', Sat G w' H → k .nilIface w') : call Tryz.prog w 102 [v] k := by
  obtain ⟨kv, vv, rfl, h1, h2⟩ := hv
  have h7 := hn.2.2.1
  refine node_Check hs h1 h2 (by simp; omega) (by simp; omega) fun w hs => ?_
  rw [hn.ndOk, if_pos rfl]
  exact hk w hs
theorem nd_pairs {v : Value} {n : Nd} (hs : Sat G w H) (hv : NdV v n H) (h8 : n.l.length < 65536) (hk : ∀ v' Hv' w', Own 151 2 v' (prs n.l) Hv' → Sat G w' (Hv' ++ H) → k v' w') : call Tryz.prog w 155 [v] k := by
  obtain ⟨kv, vv, rfl, h1, h2⟩ := hv
  refine node_pairs hs h1 h2 (by simp) (by simpa using h8) fun v' Hv' w ho hs => ?_
  rw [zip_self] at ho
  exact hk _ _ _ ho hs
theorem nd_of {v v2 : Value} {lv : Nat} {l l0 : List Pr} (hs : Sat G w H) (hv : NdV v ⟨lv, l0⟩ H) (hr : Rd 2 v2 (prs l) H) (h8 : l.length < 65536) (hk : ∀ v' X w', NdV v' ⟨lv, l⟩ X → Sat G w' (X ++ H) → k v' w') : call Tryz.prog w 178 [v, v2] k := by
  obtain ⟨kv, vv, rfl, _, _⟩ := hv
  refine node_of hs hr h8 fun kv' vv' H1 H2 w o1 o2 hs => ?_
  exact hk _ (H1 ++ H2) w ⟨kv', vv', rfl, o1.rd fun p hp => by simp [hp], o2.rd fun p hp => by simp [hp]⟩ (by rw [List.append_assoc]; exact hs)
/-- the number of keys below a key. -/
theorem Find_split {l : List Pr} {key : Int} {i : Nat} (hi : i ≤ l.length) (h1 : ∀ j (h : j < l.length), j < i → l[j].1 < key) (h2 : ∀ j (h : j < l.length), i ≤ j → key ≤ l[j].1) : (∀ e ∈ l.take i, e.1 < key) ∧ (∀ e ∈ l.drop i, key ≤ e.1) := by
  refine ⟨fun e he => ?_, fun e he => ?_⟩
  · obtain ⟨j, hj, rfl⟩ := List.getElem_of_mem he
    rw [List.length_take] at hj
    rw [List.getElem_take]
    exact h1 j (by omega) (by omega)
  · obtain ⟨j, hj, rfl⟩ := List.getElem_of_mem he
    rw [List.length_drop] at hj
    rw [List.getElem_drop]
    exact h2 _ (by omega) (by omega)
/-- finding a key: the place, and is it there? A: what lies ahead of it. -/
inductive FindR (l : List Pr) (key : Int) : Int → Bool → Prop
  | yes {i : Nat} (hi : i < l.length) (hA : ∀ e ∈ l.take i, e.1 < key) (he : l[i].1 = key) (hB : ∀ e ∈ l.drop (i + 1), key < e.1) : FindR l key i true
  | no {i : Nat} (hi : i ≤ l.length) (hA : ∀ e ∈ l.take i, e.1 < key) (hB : ∀ e ∈ l.drop i, key < e.1) : FindR l key ((i : Int) - 1) false
theorem nd_Find {v : Value} {n : Nd} {key : Int} (hs : Sat G w H) (hv : NdV v n H) (hsrt : Srt n.l) (h8 : n.l.length < 65536) (hk : ∀ at_ ex w', FindR n.l key at_ ex → Sat G w' H → k (.tuple #[int at_, .bool ex]) w') : call Tryz.prog w 114 [v, int key] k := by
  refine b_node_Node_Find_walk ?_
  unfold b_node_Node_Find
  obtain ⟨kv, vv, rfl, h1, h2⟩ := hv
  refine boxA_r (cs := [int n.lv, kv, vv]) hs fun b w hs => ?_
  refine add_r (ld_r hs (.head _) rfl ?_)
  have hlen : (n.l.map Prod.fst).length = n.l.length := by simp
  refine slices_BinarySearch hs (h1.mono fun p hp => .tail _ hp) (by simpa using h8) (List.pairwise_map.2 hsrt) fun i hi hlo hhi => ?_
  rw [hlen] at hi
  obtain ⟨hA, hB⟩ := Find_split hi (fun j h hj => by have := hlo j (by rw [hlen]; exact h) hj; simpa using this) (fun j h hj => by have := hhi j (by rw [hlen]; exact h) hj; simpa using this)
  refine tup_r rfl (tup_r rfl (Br_r (fun h => ?_) (fun h => ?_)))
  · have h := of_decide_eq_true h
    obtain ⟨hil, he⟩ := List.getElem?_eq_some_iff.1 h
    rw [hlen] at hil
    rw [List.getElem_map] at he
    refine hk _ _ w (.yes hil hA he fun e hm => ?_) hs.tail
    obtain ⟨j, hj, rfl⟩ := List.getElem_of_mem hm
    rw [List.length_drop] at hj
    rw [List.getElem_drop, ← he]
    exact List.pairwise_iff_getElem.1 hsrt i (i + 1 + j) hil (by omega) (by omega)
  · have h := of_decide_eq_false h
    refine bin_sub (by omega) (by omega) (hk _ _ w (.no hi hA fun e hm => ?_) hs.tail)
    have h3 := hB e hm
    have h4 : e.1 ≠ key := by
      intro he
      obtain ⟨j, hj, rfl⟩ := List.getElem_of_mem hm
      rw [List.length_drop] at hj
      rw [List.getElem_drop] at he h3
      have hij : i < n.l.length := by omega
      have h5 := hB n.l[i] (by rw [List.mem_iff_getElem]; exact ⟨0, by simp; omega, by simp⟩)
      have h6 : n.l[i].1 ≠ key := fun e => h (by rw [List.getElem?_eq_getElem (by rw [hlen]; exact hij), List.getElem_map, e])
      rcases Nat.eq_zero_or_pos j with rfl | hj0
      · exact h6 (by simpa using he)
      · have := List.pairwise_iff_getElem.1 hsrt i (i + j) hij (by omega) (by omega)
        omega
    omega
theorem set_eq {l A B : List Pr} {key val : Int} (hA : ∀ e ∈ A, e.1 < key) (hB : ∀ e ∈ B, key < e.1) (hl : l = A ++ B ∨ ∃ e, e.1 = key ∧ l = A ++ e :: B) : setL key val l = A ++ [(key, val)] ++ B := by
  unfold setL
  have fA1 : (A.filter fun e => decide (e.1 < key)) = A := filter_all fun e he => by simpa using hA e he
  have fA2 : (A.filter fun e => decide (key < e.1)) = [] := filter_none fun e he => by have := hA e he; simp; omega
  have fB1 : (B.filter fun e => decide (e.1 < key)) = [] := filter_none fun e he => by have := hB e he; simp; omega
  have fB2 : (B.filter fun e => decide (key < e.1)) = B := filter_all fun e he => by simpa using hB e he
  rcases hl with rfl | ⟨e, he, rfl⟩
  · rw [List.filter_append, List.filter_append, fA1, fA2, fB1, fB2]; simp
  · rw [List.filter_append, List.filter_append, fA1, fA2, List.filter_cons_of_neg (by simp; omega), List.filter_cons_of_neg (by simp; omega), fB1, fB2]; simp
theorem del_eq {A B : List Pr} {e : Pr} {key : Int} (hA : ∀ e ∈ A, e.1 < key) (hB : ∀ e ∈ B, key < e.1) (he : e.1 = key) : delL key (A ++ e :: B) = A ++ B := by
  unfold delL
  rw [List.filter_append, List.filter_cons_of_neg (by simpa using he), filter_all (l := A) fun e he => by have := hA e he; simp; omega, filter_all (l := B) fun e he => by have := hB e he; simp; omega]
theorem at_split {l : List Pr} {i : Nat} (hi : i < l.length) : l = l.take i ++ l[i] :: l.drop (i + 1) := by
  rw [List.getElem_cons_drop, List.take_append_drop]
/-- writing one pair of a slice of one's own. -/
theorem own_set {l : List Pr} {e : Pr} {v : Value} {T : TypeId} {i : Nat} {j : IntKind} (ho : Own T 2 v (prs l) Hv) (hs : Sat G w H) (hsel : Sel Hv H R) (hi : i < l.length)
    (hk : ∀ Hv' w', Own T 2 v (prs (l.take i ++ [e] ++ l.drop (i + 1))) Hv' → Sat G w' (Hv' ++ R) → k undef w') : W.idx w 2 v (.int j i) fun t w => W.st w 2 t (.agg (pr e).toArray) k := by
  obtain ⟨b, c, sp, rfl, rfl, hc⟩ := own_pairs ho (fun e => by subst e; simp at hi)
  have hs := hs.sel hsel
  refine idx_r (by omega) (by omega) ?_
  show W.st w 2 (at_ b (0 + (i : Int).toNat * 2)) (.agg (pr e).toArray) k
  have hti : (prs (l.take i)).length = i * 2 := by rw [prs_len]; simp; omega
  have e1 : prs l ++ sp = prs (l.take i) ++ prs [l[i]] ++ (prs (l.drop (i + 1)) ++ sp) := by
    rw [← prs_app, ← List.append_assoc, ← prs_app]; simp
  refine stN_r (T := T) (cs := prs l ++ sp) (H' := [(b, row T (prs (l.take i) ++ prs [e] ++ (prs (l.drop (i + 1)) ++ sp)))] ++ R) hs ?_ rfl ?_ (by simp [Value.oneCell']) fun w hs => hk _ w (own_of (l := l.take i ++ [e] ++ l.drop (i + 1)) (sp := sp) (by rw [prs_app, prs_app]; simp only [List.append_assoc]) (by simp; omega) (by
    rw [e1] at hc; simp only [List.length_append, prs1_len] at hc ⊢; exact hc)) hs
  · rw [wr_eq _ _ _ (by rw [List.length_append, prs_len]; show 0 + (i : Int).toNat * 2 + 2 ≤ _; simp; omega)]
    rw [Int.toNat_natCast, Nat.zero_add, e1]
    have := splice (A := prs (l.take i)) (M := prs [l[i]]) (B := prs (l.drop (i + 1)) ++ sp) (ys := pr e) hti rfl
    rw [this]
    exact .head
  · rw [List.length_append, prs_len]; show 0 + (i : Int).toNat * 2 + 2 ≤ _; simp; omega
theorem nd_cut {v v2 : Value} {lv : Nat} {l l0 : List Pr} (hs : Sat G w H) (hv : NdV v ⟨lv, l0⟩ H) (ho : Own 151 2 v2 (prs l) Hv) (hm : ∀ p ∈ Hv, p ∈ H) (h8 : l.length ≤ 8) (hk : ∀ v' X w', NsV v' (cutN lv l) X → Sat G w' (X ++ H) → k v' w') : call Tryz.prog w 166 [v, v2] k := by
  refine b_node_Node_cut_walk ?_
  unfold b_node_Node_cut
  have hr : Rd 2 v2 (prs l) H := ho.rd hm
  obtain ⟨kv, vv, rfl, h1, h2⟩ := hv
  refine boxA_r (cs := [int lv, kv, vv]) hs fun b w hs => ?_
  have hmb : ∀ p ∈ H, p ∈ (b, row 119 [int lv, kv, vv]) :: H := fun p hp => .tail _ hp
  have hv' : NdV (.agg #[int lv, kv, vv]) ⟨lv, l0⟩ ((b, row 119 [int lv, kv, vv]) :: H) := ⟨kv, vv, rfl, h1.mono hmb, h2.mono hmb⟩
  refine hr.len l.length (prs_len l) (by decide) ?_
  refine bin_eql (Br_eq (fun h => ?_) (fun h => ?_))
  · have hl : l = [] := List.length_eq_zero_iff.1 (by omega)
    subst hl
    exact hk _ [] w ⟨[], rfl, .nil rfl rfl, by simp⟩ hs.tail
  have hl : l ≠ [] := fun e => h (by rw [e]; rfl)
  refine hr.len l.length (prs_len l) (by decide) ?_
  refine bin_leq (Br_d (fun h7 => ?_) (fun h7 => ?_))
  · have h7 : l.length ≤ 7 := by omega
    refine ldN_r (vs := [int lv, kv, vv]) hs (.head _) rfl rfl ?_
    refine nd_of hs hv' (hr.mono hmb) (by omega) fun v' X w hn hs => ?_
    obtain ⟨kv', vv', rfl, g1, g2⟩ := hn
    refine bldS_r (cs := [int lv, kv', vv']) hs (fill_agg rfl rfl) (by decide) fun b3 w hs => ?_
    have hs2 : Sat G w (((b3, row 119 [int lv, kv', vv']) :: X) ++ H) := (hs.perm (H' := (b, row 119 [int lv, kv, vv]) :: (((b3, row 119 [int lv, kv', vv']) :: X) ++ H)) (by refine perm_of_cnt fun a => ?_; simp only [cnt_app, cnt_cons, cnt_nil] at *; omega)).tail
    refine hk _ ((b3, row 119 [int lv, kv', vv']) :: X) w ⟨[(⟨lv, l⟩, kv', vv')], ?_, ?_, ?_⟩ hs2
    · unfold cutN; rw [if_neg hl, if_pos h7]; rfl
    · exact .some rfl rfl ⟨_, _, .of (List.Mem.head _), fun j x hj => by rw [Nat.zero_add]; simpa using hj⟩
    · intro e he
      obtain rfl : e = _ := by simpa using he
      exact ⟨g1.mono fun p hp => .tail _ hp, g2.mono fun p hp => .tail _ hp⟩
  · have h8 : l.length = 8 := by omega
    obtain ⟨b2, c, sp, rfl, rfl, hc⟩ := own_pairs ho hl
    rw [List.length_append, prs_len] at hc
    refine drawS_r (fun w => Sat G w ((b, row 119 [int lv, kv, vv]) :: H)) hs fun w hs => ?_
    rw [show (Value.int .i64 4) = int ((4 : Nat) : Int) from rfl]
    refine cut_hi (by omega) (cut_lo (by omega) ?_)
    rw [if_neg (by omega), Nat.zero_add]
    have hin : (b2, row 151 (prs l ++ sp)) ∈ H := hm _ (List.Mem.head _)
    refine held_ldN (vs := [int lv, kv, vv]) hs (.head _) rfl rfl ?_
    refine held_ldN (vs := [int lv, kv, vv]) hs (.head _) rfl rfl ?_
    have hsp : prs l = prs (l.take 4) ++ prs (l.drop 4) := by rw [← prs_app, List.take_append_drop]
    have hr1 : ∀ {H' : List Blk}, (∀ p ∈ H, p ∈ H') → ∀ c', Rd 2 (.slice (some ⟨b2, 0, none⟩) 4 c') (prs (l.take 4)) H' := fun hm c' => by
      refine .some rfl (by rw [prs_len]; simp; omega) ⟨_, _, .of (hm _ hin), fun j x hj => ?_⟩
      rw [Nat.zero_add, hsp, List.append_assoc, List.getElem?_append_left (List.getElem?_eq_some_iff.1 hj).1]; exact hj
    have hr2 : ∀ {H' : List Blk}, (∀ p ∈ H, p ∈ H') → ∀ c', Rd 2 (.slice (some ⟨b2, 4 * 2, none⟩) (l.length - 4) c') (prs (l.drop 4)) H' := fun hm c' => by
      refine .some rfl (by rw [prs_len]; simp) ⟨_, _, .of (hm _ hin), fun j x hj => ?_⟩
      have e4 : (prs (l.take 4)).length = 4 * 2 := by rw [prs_len]; simp; omega
      rw [hsp, List.append_assoc, List.getElem?_append_right (by omega), e4, show 4 * 2 + j - 4 * 2 = j by omega, List.getElem?_append_left (List.getElem?_eq_some_iff.1 hj).1]; exact hj
    refine nd_of hs hv' (hr1 hmb _) (by simp; omega) fun v1 X1 w n1 hs => ?_
    refine ⟨hs.drop, ?_⟩
    have hmx : ∀ p ∈ (b, row 119 [int lv, kv, vv]) :: H, p ∈ X1 ++ ((b, row 119 [int lv, kv, vv]) :: H) := fun p hp => List.mem_append_right _ hp
    refine nd_of hs (hv'.mono hmx) (hr2 (fun p hp => hmx _ (hmb _ hp)) _) (by simp; omega) fun v2 X2 w n2 hs => ?_
    obtain ⟨k1, u1, rfl, g1, g2⟩ := n1
    obtain ⟨k2, u2, rfl, g3, g4⟩ := n2
    refine bldS_r (cs := [int lv, k1, u1, int lv, k2, u2]) hs (by rfl) (by decide) fun b3 w hs => ?_
    have hs2 : Sat G w (((b3, row 119 [int lv, k1, u1, int lv, k2, u2]) :: (X1 ++ X2)) ++ H) := (hs.perm (H' := (b, row 119 [int lv, kv, vv]) :: (((b3, row 119 [int lv, k1, u1, int lv, k2, u2]) :: (X1 ++ X2)) ++ H)) (by refine perm_of_cnt fun a => ?_; simp only [cnt_app, cnt_cons, cnt_nil] at *; omega)).tail
    refine hk _ ((b3, row 119 [int lv, k1, u1, int lv, k2, u2]) :: (X1 ++ X2)) w ⟨[(⟨lv, l.take 4⟩, k1, u1), (⟨lv, l.drop 4⟩, k2, u2)], ?_, ?_, ?_⟩ hs2
    · unfold cutN; rw [if_neg hl, if_neg (by omega)]; rfl
    · exact .some rfl rfl ⟨_, _, .of (List.Mem.head _), fun j x hj => by rw [Nat.zero_add]; simpa using hj⟩
    · intro e he
      simp at he
      rcases he with rfl | rfl
      · exact ⟨g1.mono fun p hp => .tail _ (List.mem_append_left _ hp), g2.mono fun p hp => .tail _ (List.mem_append_left _ hp)⟩
      · exact ⟨g3.mono fun p hp => .tail _ (List.mem_append_right _ hp), g4.mono fun p hp => .tail _ (List.mem_append_right _ hp)⟩
theorem FindR.set {l : List Pr} {key val at_ : Int} (h : FindR l key at_ true) : ∃ i : Nat, at_ = i ∧ ∃ hi : i < l.length, setL key val l = l.take i ++ [(key, val)] ++ l.drop (i + 1) ∧ delL key l = l.take i ++ l.drop (i + 1) := by
  generalize hx : true = x at h
  cases h with
  | @yes i hi hA he hB =>
    refine ⟨i, rfl, hi, set_eq hA hB (.inr ⟨l[i], he, at_split hi⟩), ?_⟩
    have := del_eq (e := l[i]) hA hB he
    rw [← at_split hi] at this; exact this
  | no hi hA hB => cases hx
theorem FindR.new {l : List Pr} {key val at_ : Int} (h : FindR l key at_ false) : ∃ i : Nat, at_ = (i : Int) - 1 ∧ i ≤ l.length ∧ setL key val l = l.take i ++ [(key, val)] ++ l.drop i := by
  generalize hx : false = x at h
  cases h with
  | yes hi hA he hB => cases hx
  | @no i hi hA hB => exact ⟨i, rfl, hi, set_eq hA hB (.inl (List.take_append_drop i l).symm)⟩
theorem nd_Put {v : Value} {n : Nd} {key val : Int} (hs : Sat G w H) (hv : NdV v n H) (hn : NdOk n) (hp : PrOk (key, val)) (hk : ∀ v' X w', NsV v' (cutN n.lv (setL key val n.l)) X → Sat G w' (X ++ H) → k (.tuple #[v', .nilIface]) w') : call Tryz.prog w 106 [v, int key, int val] k := by
  refine b_node_Node_Put_walk ?_
  unfold b_node_Node_Put
  have h7 := hn.2.2.1
  obtain ⟨kv, vv, rfl, h1, h2⟩ := hv
  refine boxA_r (cs := [int n.lv, kv, vv]) hs fun b w hs => ?_
  refine bld_r (zero := [int 0, int 0]) (cs := [int key, int val]) rfl ?_
  refine new_r (cs := [int 0, int 0]) hs fun b8 w hs => ?_
  refine stN_r (vs := [int key, int val]) hs .head rfl (by simp) (by simp [Value.oneCell']) fun w hs => ?_
  have hs : Sat G w ((b8, row 151 (pr (key, val))) :: (b, row 119 [int n.lv, kv, vv]) :: H) := hs
  have hm : ∀ p ∈ H, p ∈ (b8, row 151 (pr (key, val))) :: (b, row 119 [int n.lv, kv, vv]) :: H := fun p hp => .tail _ (.tail _ hp)
  have hv' : NdV (.agg #[int n.lv, kv, vv]) n ((b8, row 151 (pr (key, val))) :: (b, row 119 [int n.lv, kv, vv]) :: H) := ⟨kv, vv, rfl, h1.mono hm, h2.mono hm⟩
  refine ldN_r (vs := [int n.lv, kv, vv]) hs (.tail _ (.head _)) rfl rfl ?_
  refine nd_Check hs hv' hn fun w hs => ?_
  refine eq_nn (Br_f ?_)
  refine ldN_r (vs := pr (key, val)) hs (.head _) rfl rfl ?_
  refine pair_right hs fun w hs => ?_
  rw [(prOk_iff _).2 hp]
  refine un_not (Br_f ?_)
  refine ldN_r (vs := [int n.lv, kv, vv]) hs (.tail _ (.head _)) rfl rfl ?_
  refine nd_pairs hs hv' (by omega) fun v1 Hv1 w ho1 hs => ?_
  have hm1 : ∀ {X : List Blk}, ∀ p ∈ ((b8, row 151 (pr (key, val))) :: (b, row 119 [int n.lv, kv, vv]) :: H), p ∈ X ++ ((b8, row 151 (pr (key, val))) :: (b, row 119 [int n.lv, kv, vv]) :: H) := fun p hp => List.mem_append_right _ hp
  refine ldN_r (vs := [int n.lv, kv, vv]) hs (hm1 _ (.tail _ (.head _))) rfl rfl ?_
  refine nd_Find hs (hv'.mono hm1) hn.2.2.2.1 (by omega) fun at_ ex w hf hs => ?_
  refine tup_r rfl (tup_r rfl ?_)
  have fin : ∀ {v2 : Value} {Hv2 Y : List Blk} {w : World} {l : List Pr}, l = setL key val n.l → Own 151 2 v2 (prs l) Hv2 → Sat G w (Hv2 ++ (Y ++ ((b8, row 151 (pr (key, val))) :: (b, row 119 [int n.lv, kv, vv]) :: H))) →
      W.ldN w 3 (ptr b) fun t44 w => call Tryz.prog w 166 [t44, v2] fun t46 w => k (.tuple #[t46, .nilIface]) w := by
    intro v2 Hv2 Y w l hl ho hs
    subst hl
    refine ldN_r (vs := [int n.lv, kv, vv]) hs (List.mem_append_right _ (hm1 _ (.tail _ (.head _)))) rfl rfl ?_
    have hlen := (setF hp).len n.l hn.2.2.2.1
    have hmm : ∀ p ∈ ((b8, row 151 (pr (key, val))) :: (b, row 119 [int n.lv, kv, vv]) :: H), p ∈ Hv2 ++ (Y ++ ((b8, row 151 (pr (key, val))) :: (b, row 119 [int n.lv, kv, vv]) :: H)) := fun p hp => List.mem_append_right _ (hm1 _ hp)
    refine nd_cut hs (hv'.mono hmm) ho (fun p hp => List.mem_append_left _ hp) (by omega) fun v' X w hn hs => ?_
    exact hk _ X w hn ((hs.perm (H' := ((Hv2 ++ Y) ++ [(b8, row 151 (pr (key, val))), (b, row 119 [int n.lv, kv, vv])]) ++ (X ++ H)) (by refine perm_of_cnt fun a => ?_; simp only [cnt_app, cnt_cons, cnt_nil] at *; omega)).drop)
  refine Br_r (fun he => ?_) (fun he => ?_)
  · subst he
    obtain ⟨i, rfl, hi, e1, _⟩ := hf.set (val := val)
    refine ldN_r (vs := pr (key, val)) hs (hm1 _ (.head _)) rfl rfl ?_
    refine own_set ho1 hs .here hi fun Hv2 w ho2 hs => ?_
    exact fin (Y := []) e1.symm ho2 hs
  · subst he
    obtain ⟨i, rfl, hi, e1⟩ := hf.new (val := val)
    refine bin_add (by omega) (by omega) ?_
    rw [show (i : Int) - 1 + 1 = i by omega]
    refine ldN_r (vs := pr (key, val)) hs (hm1 _ (.head _)) rfl rfl ?_
    refine bldS_r (cs := pr (key, val)) hs (fill_agg rfl rfl) (by decide) fun b9 w hs => ?_
    refine slices_Insert (l := n.l) (e := (key, val)) (T2 := 151) (R := [(b9, row 151 (pr (key, val)))] ++ ((b8, row 151 (pr (key, val))) :: (b, row 119 [int n.lv, kv, vv]) :: H)) hs ho1 (.cons .here) hi (fun e => by have := hn.2.1; rw [e] at this; simp at this) (by omega) (List.Mem.head _) fun v' Hv' w ho hs => ?_
    exact fin (Y := [(b9, row 151 (pr (key, val)))]) e1.symm ho hs
theorem nd_Drop {v : Value} {n : Nd} {key : Int} (hs : Sat G w H) (hv : NdV v n H) (hn : NdOk n) (hp : ∃ e ∈ n.l, e.1 = key) (hk : ∀ v' X w', NdV v' ⟨n.lv, delL key n.l⟩ X → Sat G w' (X ++ H) → k (.tuple #[v', .nilIface]) w') : call Tryz.prog w 122 [v, int key] k := by
  refine b_node_Node_Drop_walk ?_
  unfold b_node_Node_Drop
  have h7 := hn.2.2.1
  obtain ⟨kv, vv, rfl, h1, h2⟩ := hv
  refine boxA_r (cs := [int n.lv, kv, vv]) hs fun b w hs => ?_
  refine new_r (cs := [int 0, .slice none 0 0, .slice none 0 0]) hs fun b4 w hs => ?_
  have hm : ∀ p ∈ H, p ∈ (b4, row 119 [int 0, .slice none 0 0, .slice none 0 0]) :: (b, row 119 [int n.lv, kv, vv]) :: H := fun p hp => .tail _ (.tail _ hp)
  have hv' : NdV (.agg #[int n.lv, kv, vv]) n ((b4, row 119 [int 0, .slice none 0 0, .slice none 0 0]) :: (b, row 119 [int n.lv, kv, vv]) :: H) := ⟨kv, vv, rfl, h1.mono hm, h2.mono hm⟩
  refine ldN_r (vs := [int n.lv, kv, vv]) hs (.tail _ (.head _)) rfl rfl ?_
  refine nd_Check hs hv' hn fun w hs => ?_
  refine eq_nn (Br_f ?_)
  refine ldN_r (vs := [int n.lv, kv, vv]) hs (.tail _ (.head _)) rfl rfl ?_
  refine nd_Find hs hv' hn.2.2.2.1 (by omega) fun at_ ex w hf hs => ?_
  refine tup_r rfl (tup_r rfl ?_)
  have hex : ex = true := by
    cases hf with
    | yes => rfl
    | @no i hi hA hB =>
      exfalso
      obtain ⟨e, he, hk⟩ := hp
      rw [← List.take_append_drop i n.l] at he
      rcases List.mem_append.1 he with he | he
      · have := hA e he; omega
      · have := hB e he; omega
  subst hex
  refine un_not (Br_f ?_)
  obtain ⟨i, rfl, hi, _, e1⟩ := hf.set (val := 0)
  refine drawS_r (fun w => ∃ X, Sat G w (X ++ ((b4, row 119 [int 0, .slice none 0 0, .slice none 0 0]) :: (b, row 119 [int n.lv, kv, vv]) :: H))) hs fun w hs => ?_
  refine bin_add (by omega) (by omega) ?_
  have hld : ∀ (k : K), k (.agg #[int n.lv, kv, vv]) w → held (fun w => ∃ X, Sat G w (X ++ ((b4, row 119 [int 0, .slice none 0 0, .slice none 0 0]) :: (b, row 119 [int n.lv, kv, vv]) :: H))) w (fun w k => ldN w 3 (ptr b) k) k := fun k h =>
    ⟨⟨[], hs⟩, _, fun w' ⟨X, hs'⟩ => ldN_r (vs := [int n.lv, kv, vv]) hs' (List.mem_append_right _ (.tail _ (.head _))) rfl rfl ⟨rfl, rfl⟩, h⟩
  refine hld _ (hld _ ?_)
  refine nd_pairs hs hv' (by omega) fun v1 Hv1 w ho1 hs => ⟨⟨_, hs⟩, ?_⟩
  refine slices_Delete hs ho1 .here hi (by omega) fun v2 Hv2 w ho2 hs => ⟨⟨_, hs⟩, ?_⟩
  rw [← e1] at ho2
  have hlen := delF.len (key := key) n.l hn.2.2.2.1
  refine nd_of hs (hv'.mono fun p hp => List.mem_append_right _ hp) (ho2.rd fun p hp => List.mem_append_left _ hp) (by omega) fun v3 X w hn3 hs => ⟨⟨X ++ Hv2, by rw [List.append_assoc]; exact hs⟩, ?_⟩
  obtain ⟨k3, u3, rfl, g1, g2⟩ := hn3
  refine stN_r (vs := [int n.lv, k3, u3]) hs (.app (.app .head)) rfl (by simp) (fun y hy => by
    simp only [List.mem_cons, List.not_mem_nil, or_false] at hy
    rcases hy with rfl | rfl | rfl
    · rfl
    · exact g1.one
    · exact g2.one) fun w hs => ?_
  have hs : Sat G w (X ++ (Hv2 ++ ((b4, row 119 [int n.lv, k3, u3]) :: (b, row 119 [int n.lv, kv, vv]) :: H))) := hs
  refine ldN_r (vs := [int n.lv, k3, u3]) hs (List.mem_append_right _ (List.mem_append_right _ (.head _))) rfl rfl ?_
  exact hk _ X w ⟨k3, u3, rfl, g1, g2⟩ ((hs.perm (H' := (Hv2 ++ [(b4, row 119 [int n.lv, k3, u3]), (b, row 119 [int n.lv, kv, vv])]) ++ (X ++ H)) (by refine perm_of_cnt fun a => ?_; simp only [cnt_app, cnt_cons, cnt_nil] at *; omega)).drop)
theorem nd_Change {v v2 : Value} {n : Nd} {i : Nat} {bl : List Pr} {T2 : TypeId} (hs : Sat G w H) (hv : NdV v n H) (hn : NdOk n) (hi : i < n.l.length) (h2l : bl.length ≤ 2) (ho2 : Own T2 2 v2 (prs bl) Hv) (hm2 : ∀ p ∈ Hv, p ∈ H) (hr : RowOk (swapAt n.l i bl)) (hk : ∀ v' X w', NsV v' (cutN n.lv (swapAt n.l i bl)) X → Sat G w' (X ++ H) → k (.tuple #[v', .nilIface]) w') : call Tryz.prog w 199 [v, int i, v2] k := by
  refine b_node_Node_Change_walk ?_
  unfold b_node_Node_Change
  have h7 := hn.2.2.1
  obtain ⟨kv, vv, rfl, h1, h2⟩ := hv
  refine boxA_r (cs := [int n.lv, kv, vv]) hs fun b w hs => ?_
  have hm : ∀ p ∈ H, p ∈ (b, row 119 [int n.lv, kv, vv]) :: H := fun p hp => .tail _ hp
  have hv' : NdV (.agg #[int n.lv, kv, vv]) n ((b, row 119 [int n.lv, kv, vv]) :: H) := ⟨kv, vv, rfl, h1.mono hm, h2.mono hm⟩
  refine ldN_r (vs := [int n.lv, kv, vv]) hs (.head _) rfl rfl ?_
  refine nd_Check hs hv' hn fun w hs => ?_
  refine eq_nn (Br_f ?_)
  refine bin_lss (Br_d (fun h => by omega) (fun _ => ?_))
  refine add_r (ld_r hs (.head _) rfl ?_)
  refine (h1.mono hm).len n.l.length (by simp) (by decide) ?_
  refine bin_geq (Br_d (fun h => by omega) (fun _ => ?_))
  obtain ⟨a2, c2, hv2⟩ := own_slice ho2
  subst hv2
  refine len_r (bin_gtr (Br_d (fun h => by omega) (fun _ => ?_)))
  refine ldN_r (vs := [int n.lv, kv, vv]) hs (.head _) rfl rfl ?_
  refine nd_pairs hs hv' (by omega) fun v1 Hv1 w ho1 hs => ?_
  refine bin_add (by omega) (by omega) ?_
  refine slices_Replace hs ho1 .here hi (by omega) h2l ho2 (fun p hp => hm _ (hm2 _ hp)) fun v3 Hv3 w ho3 hs => ?_
  have e : n.l.take i ++ bl ++ n.l.drop (i + 1) = swapAt n.l i bl := rfl
  rw [e] at ho3
  have hlen : (swapAt n.l i bl).length ≤ 8 := by rw [swapAt_len hi]; omega
  refine node_ordered hs (ho3.rd fun p hp => List.mem_append_left _ hp) (by omega) fun w hs => ?_
  rw [(ordP_iff _).2 hr]
  refine un_not (Br_f ?_)
  refine ldN_r (vs := [int n.lv, kv, vv]) hs (List.mem_append_right _ (.head _)) rfl rfl ?_
  refine nd_cut hs (hv'.mono fun p hp => List.mem_append_right _ hp) ho3 (fun p hp => List.mem_append_left _ hp) hlen fun v' X w hns hs => ?_
  exact hk _ X w hns ((hs.perm (H' := (Hv3 ++ [(b, row 119 [int n.lv, kv, vv])]) ++ (X ++ H)) (by refine perm_of_cnt fun a => ?_; simp only [cnt_app, cnt_cons, cnt_nil] at *; omega)).drop)
end
end Go.Proofs.YtemenmmekddjaaaGreatDoor
end
section
namespace Go.Proofs.YtemenmmekddjaaaGreatDoor
open Go Go.Wx Go.W
variable {ω : Go.W.Origin}
section
variable {G H H' R Hb Hv : List Blk} {w : World} {k : K} {b : Nat}
theorem body_len (n : Nd) : (nodeBody n).length = 2 + n.l.length * 16 := by
  unfold nodeBody
  rw [List.length_append]
  have : (n.l.flatMap fun e => long8 e.1.toNat ++ long8 e.2.toNat).length = n.l.length * 16 := by
    induction n.l with
    | nil => rfl
    | cons e l ih => rw [List.flatMap_cons, List.length_append, ih, List.length_cons]; simp [long8]; omega
  rw [this]; rfl
theorem nodeBytes_len {n : Nd} (hn : NdOk n) : (nodeBytes n).length = 128 := by
  unfold nodeBytes
  exact frameOf_length (by rw [body_len]; have := hn.2.2.1; omega)
theorem nd_Bytes {v : Value} {n : Nd} (hs : Sat G w H) (hv : NdV v n H) (hn : NdOk n) (hk : ∀ v' X w', Own 5 1 v' ((nodeBytes n).map u8) X → Sat G w' (X ++ H) → k (.tuple #[v', .nilIface]) w') : call Tryz.prog w 156 [v] k := by
  refine b_node_Node_Bytes_walk ?_
  unfold b_node_Node_Bytes
  have h7 := hn.2.2.1
  have hlv := hn.1
  obtain ⟨kv, vv, rfl, h1, h2⟩ := hv
  refine boxA_r (cs := [int n.lv, kv, vv]) hs fun b w hs => ?_
  have hm : ∀ p ∈ H, p ∈ (b, row 119 [int n.lv, kv, vv]) :: H := fun p hp => .tail _ hp
  have hv' : NdV (.agg #[int n.lv, kv, vv]) n ((b, row 119 [int n.lv, kv, vv]) :: H) := ⟨kv, vv, rfl, h1.mono hm, h2.mono hm⟩
  refine ldN_r (vs := [int n.lv, kv, vv]) hs (.head _) rfl rfl ?_
  refine nd_Check hs hv' hn fun w hs => ?_
  refine eq_nn (Br_f ?_)
  have main : ∀ (bp : Nat) (Hp Y : List Blk) (w : World), PkR bp [n.lv, n.l.length] Hp → Sat G w (Hp ++ (Y ++ ((b, row 119 [int n.lv, kv, vv]) :: H))) →
      W.ldN w 3 (ptr b) fun t21 w => call Tryz.prog w 155 [t21] fun t22 w => W.len w t22 fun t23 w =>
      loop [(.int .i64 0)] w fun J1 s1 next1 w =>
      bin w .lss (at' s1 0) t23 fun t25 w =>
      Br t25 (
        idx w 2 t22 (at' s1 0) fun t26 w =>
        W.ldN w 2 t26 fun t27 w =>
        new w 151 #[.int .i64 0, .int .i64 0] fun t6 w =>
        W.st w 2 t6 t27 fun _ w =>
        add w 0 t6 fun t29 w =>
        ld w t29 fun t30 w =>
        add w 1 t6 fun t31 w =>
        ld w t31 fun t32 w =>
        bldS w 3 2 1 [.int .i64 0] [(0, t30), (1, t32)] fun t33 w =>
        call Tryz.prog w 190 [ptr bp, t33] fun t34 w =>
        bin w .add (at' s1 0) (.int .i64 1) fun t35 w =>
        next1 [t35] w
      ) (
        call Tryz.prog w 191 [ptr bp] fun t38 w =>
        tup w 0 t38 fun t39 w =>
        tup w 1 t38 fun t40 w =>
        eq w true true .iface t40 .nilIface fun t42 w =>
        Br t42 (
          k (.tuple #[(.slice none 0 0), (.iface 149 (.int .i64 70))]) w
        ) (
          call Tryz.prog w 192 [(.int .u8 2), t39] fun t45 w =>
          tup w 0 t45 fun t46 w =>
          tup w 1 t45 fun t47 w =>
          k (.tuple #[t46, t47]) w
        )
      ) := by
    intro bp Hp Y w hp hs
    have hmm : ∀ {X : List Blk}, ∀ p ∈ (b, row 119 [int n.lv, kv, vv]) :: H, p ∈ X ++ (Y ++ ((b, row 119 [int n.lv, kv, vv]) :: H)) := fun p hp => List.mem_append_right _ (List.mem_append_right _ hp)
    refine ldN_r (vs := [int n.lv, kv, vv]) hs (hmm _ (.head _)) rfl rfl ?_
    refine nd_pairs hs (hv'.mono hmm) (by omega) fun v1 Hv1 w ho1 hs => ?_
    have hr1 : ∀ {X : List Blk}, (∀ p ∈ Hv1, p ∈ X) → Rd 2 v1 (n.l.flatMap pr) X := fun hx => ho1.rd hx
    refine (hr1 (X := Hv1) fun _ h => h).len n.l.length (prs_len n.l) (by decide) ?_
    refine loop_r (fun c vs w => ∃ (i : Nat) (Hp' : List Blk), i ≤ n.l.length ∧ vs = [int i] ∧ c = n.l.length - i ∧ PkR bp ([n.lv, n.l.length] ++ (n.l.take i).flatMap fun e => long8 e.1.toNat ++ long8 e.2.toNat) Hp' ∧ Sat G w (Hv1 ++ (Hp' ++ (Y ++ ((b, row 119 [int n.lv, kv, vv]) :: H))))) n.l.length ⟨0, Hp, by omega, rfl, rfl, by simpa using hp, hs⟩ ?_
    rintro J c vs w next ⟨i, Hp', hi, rfl, rfl, hp, hs⟩ hnext
    refine bin_lss (Br_d (fun h => ?_) (fun h => ?_))
    · have hi' : i < n.l.length := by
        have : (i : Int) < n.l.length := h
        omega
      refine (hr1 fun p hp => List.mem_append_left _ hp).ldN hs (fun _ _ => rfl) (by decide) hi' ?_
      refine new_r (cs := [int 0, int 0]) hs fun b6 w hs => ?_
      refine stN_r (vs := pr n.l[i]) hs .head rfl (by simp) (by simp [Value.oneCell']) fun w hs => ?_
      have hs : Sat G w ((b6, row 151 (pr n.l[i])) :: (Hv1 ++ (Hp' ++ (Y ++ ((b, row 119 [int n.lv, kv, vv]) :: H))))) := hs
      refine add_r (ld_r hs (.head _) rfl (add_r (ld_r hs (.head _) rfl ?_)))
      refine bldS_r (cs := [int n.l[i].1, int n.l[i].2]) hs (by rfl) (by decide) fun b33 w hs => ?_
      have hpo := hn.2.2.2.2 _ (List.getElem_mem hi')
      obtain ⟨p1, p2, p3, p4⟩ := hpo
      have hlen : ((n.l.take i).flatMap fun e => long8 e.1.toNat ++ long8 e.2.toNat).length = i * 16 := by
        have h0 : (n.l.take i).length = i := by simp; omega
        have h1 : ∀ l : List Pr, (l.flatMap fun e => long8 e.1.toNat ++ long8 e.2.toNat).length = l.length * 16 := by
          intro l
          induction l with
          | nil => rfl
          | cons e l ih => rw [List.flatMap_cons, List.length_append, ih, List.length_cons]; simp [long8]; omega
        rw [h1, h0]
      refine frame_Long (l := [n.l[i].1.toNat, n.l[i].2.toNat]) (R := (b33, row 3 [int n.l[i].1, int n.l[i].2]) :: (b6, row 151 (pr n.l[i])) :: (Hv1 ++ (Y ++ ((b, row 119 [int n.lv, kv, vv]) :: H)))) hs hp (.cons (.cons (.app .here))) ?_ (by rw [List.length_append, hlen]; simp; omega) ?_ fun Hp2 w hp hs => ?_
      · refine .some rfl rfl ⟨_, _, .of (.head _), fun j x hj => ?_⟩
        rw [Nat.zero_add]
        simp only [List.map_cons, List.map_nil] at hj
        rw [Int.toNat_of_nonneg p1, Int.toNat_of_nonneg (by omega)] at hj
        exact hj
      · intro x hx
        simp at hx
        rcases hx with rfl | rfl <;> omega
      refine bin_add (by omega) (by omega) ?_
      refine hnext (n.l.length - (i + 1)) _ _ (by omega) ⟨i + 1, Hp2, by omega, rfl, rfl, ?_, ?_⟩
      · have : n.l.take (i + 1) = n.l.take i ++ [n.l[i]] := by
          rw [List.take_add_one, List.getElem?_eq_getElem hi']; rfl
        rw [this, List.flatMap_append, ← List.append_assoc]
        simpa using hp
      · exact (hs.perm (H' := [(b33, row 3 [int n.l[i].1, int n.l[i].2]), (b6, row 151 (pr n.l[i]))] ++ (Hv1 ++ (Hp2 ++ (Y ++ ((b, row 119 [int n.lv, kv, vv]) :: H))))) (by refine perm_of_cnt fun a => ?_; simp only [cnt_app, cnt_cons, cnt_nil] at *; omega)).drop
    · have hi' : i = n.l.length := by
        have : ¬ (i : Int) < n.l.length := h
        omega
      subst hi'
      rw [List.take_length] at hp
      have hb : [n.lv, n.l.length] ++ (n.l.flatMap fun e => long8 e.1.toNat ++ long8 e.2.toNat) = nodeBody n := rfl
      rw [hb] at hp
      have hbl := body_len n
      refine frame_Bytes hs hp (.app .here) (by omega) fun v2 Hv2 w ho2 hs => ?_
      refine tup_r rfl (tup_r rfl (eq_nn (Br_f ?_)))
      refine frame_Put hs (ho2.rd fun p hp => List.mem_append_left _ hp) (by omega) fun v3 Hv3 w ho3 hs => ?_
      refine tup_r rfl (tup_r rfl ?_)
      exact hk _ Hv3 w ho3 ((hs.perm (H' := (Hv2 ++ (Hv1 ++ (Y ++ [(b, row 119 [int n.lv, kv, vv])]))) ++ (Hv3 ++ H)) (by refine perm_of_cnt fun a => ?_; simp only [cnt_app, cnt_cons, cnt_nil] at *; omega)).drop)
  refine drawS_r (fun w => ∃ X, Sat G w (X ++ ((b, row 119 [int n.lv, kv, vv]) :: H))) hs fun w hs => ?_
  have hld : ∀ (o : Nat) (x : Value) (k : K), [int (n.lv : Int), kv, vv][o]? = some x → k x w → held (fun w => ∃ X, Sat G w (X ++ ((b, row 119 [int n.lv, kv, vv]) :: H))) w (fun w k => ld w (at_ b (0 + o)) k) k := fun o x k hx h =>
    ⟨⟨[], hs⟩, _, fun w' ⟨X, hs'⟩ => ld_r hs' (List.mem_append_right _ (.head _)) (by rw [Nat.zero_add]; exact hx) ⟨rfl, rfl⟩, h⟩
  refine add_r (add_r (hld 0 _ _ rfl (hld 1 _ _ rfl ?_)))
  refine (h1.mono hm).len n.l.length (by simp) (by decide) ⟨?_, ?_⟩
  · refine frame_NewPacker hs fun bp Hp w hp hs => ⟨⟨Hp, hs⟩, ?_⟩
    refine bldS_r (cs := [int n.lv, int n.l.length]) hs (by rfl) (by decide) fun b19 w hs => ?_
    refine frame_Byte (l := [n.lv, n.l.length]) hs hp (.cons .here) (.some rfl rfl ⟨_, _, .of (.head _), fun j x hj => by rw [Nat.zero_add]; exact hj⟩) (by simp) (by intro x hx; simp at hx; rcases hx with rfl | rfl <;> omega) fun Hp w hp hs => ⟨⟨Hp ++ [(b19, row 3 [int n.lv, int n.l.length])], by rw [List.append_assoc]; exact hs⟩, ?_⟩
    refine main bp Hp [(b19, row 3 [int n.lv, int n.l.length])] w ?_ hs
    have e : ([] : List Nat) ++ [n.lv, n.l.length].flatMap (fun x => [x % 256]) = [n.lv, n.l.length] := by
      simp [Nat.mod_eq_of_lt (show n.lv < 256 by omega), Nat.mod_eq_of_lt (show n.l.length < 256 by omega)]
    rw [e] at hp; exact hp
  · refine bldS_r (cs := [int n.lv, int n.l.length]) hs (by rfl) (by decide) fun b19 w hs => ?_
    refine frame_NewPacker hs fun bp Hp w hp hs => ⟨⟨Hp ++ [(b19, row 3 [int n.lv, int n.l.length])], by rw [List.append_assoc]; exact hs⟩, ?_⟩
    refine frame_Byte (l := [n.lv, n.l.length]) hs hp .here (.some rfl rfl ⟨_, _, .of (.head _), fun j x hj => by rw [Nat.zero_add]; exact hj⟩) (by simp) (by intro x hx; simp at hx; rcases hx with rfl | rfl <;> omega) fun Hp w hp hs => ⟨⟨Hp ++ [(b19, row 3 [int n.lv, int n.l.length])], by rw [List.append_assoc]; exact hs⟩, ?_⟩
    refine main bp Hp [(b19, row 3 [int n.lv, int n.l.length])] w ?_ hs
    have e : ([] : List Nat) ++ [n.lv, n.l.length].flatMap (fun x => [x % 256]) = [n.lv, n.l.length] := by
      simp [Nat.mod_eq_of_lt (show n.lv < 256 by omega), Nat.mod_eq_of_lt (show n.l.length < 256 by omega)]
    rw [e] at hp; exact hp
end
end Go.Proofs.YtemenmmekddjaaaGreatDoor
end
