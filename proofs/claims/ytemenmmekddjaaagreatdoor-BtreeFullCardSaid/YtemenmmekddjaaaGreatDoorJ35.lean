/- What the small functions of the law do: mod, is, pairs, the document's Find, Set, Without. No condition. What the small functions of the law do: pairs, the document's Find, Set, Without. No condition. What the law's look at four trees does. No condition. -/
import Derived.Test.YtemenmmekddjaaaGreatDoorJ14
import Derived.Test.YtemenmmekddjaaaGreatDoorJ34
set_option linter.all false
set_option linter.unusedVariables false
set_option linter.unusedSimpArgs false
set_option linter.unnecessarySimpa false
set_option linter.unusedSectionVars false
set_option linter.constructorNameAsVariable false
section
namespace Go.Proofs.YtemenmmekddjaaaGreatDoor
open Go Go.Wx Go.W
variable {ω : Go.W.Origin}
theorem set_snoc_gt {key val : Int} {l : List Pr} {e : Pr} (h : key < e.1) : setL key val (l ++ [e]) = setL key val l ++ [e] := by
  unfold setL
  rw [List.filter_append, List.filter_append]
  have h1 : [e].filter (fun e => decide (e.1 < key)) = [] := List.filter_eq_nil_iff.2 fun x hx => by simp at hx; subst hx; simp; omega
  have h2 : [e].filter (fun e => decide (key < e.1)) = [e] := List.filter_eq_self.2 fun x hx => by simp at hx; subst hx; simpa using h
  rw [h1, h2]; simp
theorem set_snoc_eq {key val : Int} {l : List Pr} {e : Pr} (h : e.1 = key) : setL key val (l ++ [e]) = setL key val l := by
  unfold setL
  rw [List.filter_append, List.filter_append]
  have h1 : [e].filter (fun e => decide (e.1 < key)) = [] := List.filter_eq_nil_iff.2 fun x hx => by simp at hx; subst hx; simp; omega
  have h2 : [e].filter (fun e => decide (key < e.1)) = [] := List.filter_eq_nil_iff.2 fun x hx => by simp at hx; subst hx; simp; omega
  rw [h1, h2]; simp
theorem set_lt {key val : Int} {l : List Pr} (h : ∀ e ∈ l, e.1 < key) : setL key val l = l ++ [(key, val)] := by
  unfold setL
  rw [List.filter_eq_self.2 fun e he => by simpa using h e he, List.filter_eq_nil_iff.2 fun e he => by have := h e he; simp; omega]
section
variable {G H R Hb Hv : List Blk} {w : World} {k : K}
theorem law_mod {n : Int} (hk : ∀ i : Nat, i < 4 → k (int i) w) : call Tryz.prog w 67 [int n] k := by
  refine b_portagelaw12_mod_walk ?_
  unfold b_portagelaw12_mod
  refine ⟨int (n.tmod 4), by simp [intBin], ?_⟩
  have h1 : n.tmod 4 < 4 := Int.tmod_lt_of_pos n (by decide)
  have h2 : -4 < n.tmod 4 := Int.lt_tmod_of_pos n (by decide)
  show bin w .add (int (n.tmod 4)) (int 4) _
  refine bin_add (by omega) (by omega) (bin_rem (by omega) (by decide) ?_)
  have := hk ((n.tmod 4 + 4) % 4).toNat (by omega)
  rw [show (((n.tmod 4 + 4) % 4).toNat : Int) = (n.tmod 4 + 4) % 4 by omega] at this
  exact this
theorem comparable (w : World) : (callMethod (.iface 263 (.agg #[.pointer (some ⟨1, 149, none⟩)])) "Comparable" [].toArray).run Tryz.prog w = .ok (.value (.bool true)) w := by kernel_rfl
theorem typeOf_50 (w : World) : (callFunc 133 [.iface 149 (int 50)].toArray).run Tryz.prog w = .ok (.value (.iface 263 (.agg #[.pointer (some ⟨1, 149, none⟩)]))) w := by
  rw [run_callFunc_extern Tryz.func133 (by kernel_rfl) (by kernel_rfl) (by kernel_rfl) (e := Extern.ReflectliteType.typeOf) (by kernel_rfl)]
  have : (Extern.ReflectliteType.typeOf [Value.iface 149 (int 50)].toArray).run Tryz.prog w = .ok (.iface 263 (.agg #[.pointer (some ⟨1, 149, none⟩)])) w := by kernel_rfl
  rw [this]; rfl
theorem same_50 (w : World) (a b : Nat) : (do eqGuard .eql 52 (.tmp a) (.tmp b) (.iface 149 (int 50)) (.iface 149 (int 50)); binOp .eql 52 (.iface 149 (int 50)) (.iface 149 (int 50))).run Tryz.prog w = .ok (.bool true) w := by kernel_rfl
theorem law_is_50 (hk : k (.bool true) w) : call Tryz.prog w 68 [.iface 149 (int 50), int 50] k := by
  refine b_portagelaw12_is_walk ?_
  unfold b_portagelaw12_is
  refine bin_eql (Br_f (eq_ifn (Br_t ?_)))
  refine b_errors_Is_walk ?_
  unfold b_errors_Is
  refine eq_ifn (Br_f (eq_ifn (Br_f ?_)))
  have h1 := typeOf_50 w
  generalize callFunc 133 [.iface 149 (int 50)].toArray = c1 at h1 ⊢
  refine does_r h1 ?_
  have h2 := comparable w
  generalize callMethod (.iface 263 (.agg #[.pointer (some ⟨1, 149, none⟩)])) "Comparable" [].toArray = c2 at h2 ⊢
  refine does_r h2 ?_
  refine b_errors_is_walk ?_
  unfold b_errors_is
  refine loop_r (fun c vs w' => vs = [.iface 149 (int 50)] ∧ w' = w) 0 ⟨rfl, rfl⟩ ?_
  rintro J c vs w' next ⟨rfl, rfl⟩ hnext
  refine Br_t ?_
  exact ⟨_, _, same_50 _ _ _, Br_t hk⟩
theorem typeOf_80 (w : World) : (callFunc 133 [.iface 149 (int 80)].toArray).run Tryz.prog w = .ok (.value (.iface 263 (.agg #[.pointer (some ⟨1, 149, none⟩)]))) w := by
  rw [run_callFunc_extern Tryz.func133 (by kernel_rfl) (by kernel_rfl) (by kernel_rfl) (e := Extern.ReflectliteType.typeOf) (by kernel_rfl)]
  have : (Extern.ReflectliteType.typeOf [Value.iface 149 (int 80)].toArray).run Tryz.prog w = .ok (.iface 263 (.agg #[.pointer (some ⟨1, 149, none⟩)])) w := by kernel_rfl
  rw [this]; rfl
theorem same_80 (w : World) (a b : Nat) : (do eqGuard .eql 52 (.tmp a) (.tmp b) (.iface 149 (int 80)) (.iface 149 (int 80)); binOp .eql 52 (.iface 149 (int 80)) (.iface 149 (int 80))).run Tryz.prog w = .ok (.bool true) w := by kernel_rfl
theorem law_is_80 (hk : k (.bool true) w) : call Tryz.prog w 68 [.iface 149 (int 80), int 80] k := by
  refine b_portagelaw12_is_walk ?_
  unfold b_portagelaw12_is
  refine bin_eql (Br_f (eq_ifn (Br_t ?_)))
  refine b_errors_Is_walk ?_
  unfold b_errors_Is
  refine eq_ifn (Br_f (eq_ifn (Br_f ?_)))
  have h1 := typeOf_80 w
  generalize callFunc 133 [.iface 149 (int 80)].toArray = c1 at h1 ⊢
  refine does_r h1 ?_
  have h2 := comparable w
  generalize callMethod (.iface 263 (.agg #[.pointer (some ⟨1, 149, none⟩)])) "Comparable" [].toArray = c2 at h2 ⊢
  refine does_r h2 ?_
  refine b_errors_is_walk ?_
  unfold b_errors_is
  refine loop_r (fun c vs w' => vs = [.iface 149 (int 80)] ∧ w' = w) 0 ⟨rfl, rfl⟩ ?_
  rintro J c vs w' next ⟨rfl, rfl⟩ hnext
  refine Br_t ?_
  exact ⟨_, _, same_80 _ _ _, Br_t hk⟩
theorem typeOf_81 (w : World) : (callFunc 133 [.iface 149 (int 81)].toArray).run Tryz.prog w = .ok (.value (.iface 263 (.agg #[.pointer (some ⟨1, 149, none⟩)]))) w := by
  rw [run_callFunc_extern Tryz.func133 (by kernel_rfl) (by kernel_rfl) (by kernel_rfl) (e := Extern.ReflectliteType.typeOf) (by kernel_rfl)]
  have : (Extern.ReflectliteType.typeOf [Value.iface 149 (int 81)].toArray).run Tryz.prog w = .ok (.iface 263 (.agg #[.pointer (some ⟨1, 149, none⟩)])) w := by kernel_rfl
  rw [this]; rfl
theorem same_81 (w : World) (a b : Nat) : (do eqGuard .eql 52 (.tmp a) (.tmp b) (.iface 149 (int 81)) (.iface 149 (int 81)); binOp .eql 52 (.iface 149 (int 81)) (.iface 149 (int 81))).run Tryz.prog w = .ok (.bool true) w := by kernel_rfl
theorem law_is_81 (hk : k (.bool true) w) : call Tryz.prog w 68 [.iface 149 (int 81), int 81] k := by
  refine b_portagelaw12_is_walk ?_
  unfold b_portagelaw12_is
  refine bin_eql (Br_f (eq_ifn (Br_t ?_)))
  refine b_errors_Is_walk ?_
  unfold b_errors_Is
  refine eq_ifn (Br_f (eq_ifn (Br_f ?_)))
  have h1 := typeOf_81 w
  generalize callFunc 133 [.iface 149 (int 81)].toArray = c1 at h1 ⊢
  refine does_r h1 ?_
  have h2 := comparable w
  generalize callMethod (.iface 263 (.agg #[.pointer (some ⟨1, 149, none⟩)])) "Comparable" [].toArray = c2 at h2 ⊢
  refine does_r h2 ?_
  refine b_errors_is_walk ?_
  unfold b_errors_is
  refine loop_r (fun c vs w' => vs = [.iface 149 (int 81)] ∧ w' = w) 0 ⟨rfl, rfl⟩ ?_
  rintro J c vs w' next ⟨rfl, rfl⟩ hnext
  refine Br_t ?_
  exact ⟨_, _, same_81 _ _ _, Br_t hk⟩
end
end Go.Proofs.YtemenmmekddjaaaGreatDoor
end
section
namespace Go.Proofs.YtemenmmekddjaaaGreatDoor
open Go Go.Wx Go.W
variable {ω : Go.W.Origin}
theorem set_len (key val : Int) (l : List Pr) : (setL key val l).length ≤ l.length + 1 := by
  have h := two_filters (p := fun e : Pr => decide (e.1 < key)) (q := fun e : Pr => decide (key < e.1)) (l := l) fun e _ h => by simp at h ⊢; omega
  unfold setL
  rw [List.length_append, List.length_cons]
  exact Nat.succ_le_succ h
section
variable {G H R Hb Hv : List Blk} {w : World} {k : K}
theorem held_fst {l : List Pr} {v : Value} {i : Nat} {j : IntKind} {H' : List Blk} (h : Rd 2 v (prs l) H) (hi : i < l.length) (hk : ∀ b o, Lies H b o (pr l[i]) → k (at_ b o) w) : W.idx w 2 v (.int j i) k :=
  Rd.idx (f := pr) h (fun _ _ => rfl) (by decide) hi hk
theorem law_pairs {L : List Pr} {va vb : Value} (hs : Sat G w H) (ha : Rd 2 va (prs L) H) (hb : Rd 2 vb (prs L) H) (hlen : L.length < 100000) (hk : ∀ w', Sat G w' H → k (.bool true) w') : call Tryz.prog w 74 [va, vb] k := by
  refine b_portagelaw12_pairs_walk ?_
  unfold b_portagelaw12_pairs
  refine ha.len L.length (prs_len _) (by decide) (hb.len L.length (prs_len _) (by decide) ?_)
  refine bin_neq ?_
  rw [show ((L.length : Int) != L.length) = false by simp]
  refine Br_f (ha.len L.length (prs_len _) (by decide) ?_)
  refine loop_r (fun cc vs w => ∃ i : Nat, i ≤ L.length ∧ vs = [int i] ∧ cc = L.length - i ∧ Sat G w H) L.length ⟨0, by omega, rfl, rfl, hs⟩ ?_
  clear hs
  rintro J cc vs w next ⟨i, hi, rfl, rfl, hs⟩ hnext
  refine bin_lss (Br_d (fun hc => ?_) (fun hc => hk w hs))
  have hi' : i < L.length := by
    have : (i : Int) < L.length := hc
    omega
  refine drawS_r (fun w => Sat G w H) hs fun w hs => ?_
  refine Rd.idx (f := pr) ha (fun _ _ => rfl) (by decide) hi' fun b1 o1 l1 => add_r ?_
  refine Rd.idx (f := pr) hb (fun _ _ => rfl) (by decide) hi' fun b2 o2 l2 => add_r ?_
  refine l1.held1 hs rfl (l2.held1 hs rfl ?_)
  refine bin_neq ?_
  rw [show (L[i].1 != L[i].1) = false by simp]
  refine Br_f ?_
  refine Rd.idx (f := pr) ha (fun _ _ => rfl) (by decide) hi' fun b1 o1 l1 => add_r ?_
  refine Rd.idx (f := pr) hb (fun _ _ => rfl) (by decide) hi' fun b2 o2 l2 => add_r ?_
  refine l1.held1 hs rfl (l2.held1 hs rfl ?_)
  refine bin_neq ?_
  rw [show (L[i].2 != L[i].2) = false by simp]
  refine Br_f (bin_add (by omega) (by omega) ?_)
  exact hnext (L.length - (i + 1)) _ _ (by omega) ⟨i + 1, by omega, rfl, rfl, hs⟩
theorem ref_Find {key : Int} {L : List Pr} {v : Value} (hs : Sat G w H) (hr : Rd 2 v (prs L) H) (hlen : L.length < 100000) (hk : ∀ w', Sat G w' H → k (foundV (lookL key L)) w') : call Tryz.prog w 70 [v, int key] k := by
  refine b_portageref12_Find_walk ?_
  unfold b_portageref12_Find
  refine loop_r (fun cc vs w => ∃ i : Nat, i ≤ L.length ∧ vs = [int i] ∧ cc = L.length - i ∧ (∀ e ∈ L.take i, e.1 ≠ key) ∧ Sat G w H) L.length ⟨0, by omega, rfl, rfl, by simp, hs⟩ ?_
  clear hs
  rintro J cc vs w next ⟨i, hi, rfl, rfl, hne, hs⟩ hnext
  refine hr.len L.length (prs_len _) (by decide) ?_
  refine bin_lss (Br_d (fun hc => ?_) (fun hc => ?_))
  · have hi' : i < L.length := by
      have : (i : Int) < L.length := hc
      omega
    refine rd_fst hr hs hi' ?_
    refine bin_eql (Br_eq (fun he => ?_) (fun he => ?_))
    · refine rd_snd hr hs hi' ?_
      have e : lookL key L = some L[i].2 := by
        conv => lhs; rw [at_split hi']
        unfold lookL
        rw [List.find?_append, List.find?_eq_none.2 fun e he => by simpa using hne e he, Option.none_or, List.find?_cons_of_pos (by simpa using he)]
        rfl
      rw [e] at hk
      exact hk w hs
    · refine bin_add (by omega) (by omega) ?_
      refine hnext (L.length - (i + 1)) _ _ (by omega) ⟨i + 1, by omega, rfl, rfl, fun e h => ?_, hs⟩
      rw [List.take_add_one, List.getElem?_eq_getElem hi'] at h
      rcases List.mem_append.1 h with h | h
      · exact hne e h
      · simp at h; subst h; exact he
  · have hi' : i = L.length := by
      have : ¬ (i : Int) < L.length := hc
      omega
    subst hi'
    rw [List.take_length] at hne
    rw [look_none hne] at hk
    exact hk w hs
theorem ref_Without {key : Int} {L : List Pr} {v : Value} (hs : Sat G w H) (hr : Rd 2 v (prs L) H) (hlen : L.length < 100000) (hk : ∀ v' Ho w', W.Own 86 2 v' (prs (delL key L)) Ho → Sat G w' (Ho ++ H) → k v' w') : call Tryz.prog w 71 [v, int key] k := by
  refine b_portageref12_Without_walk ?_
  unfold b_portageref12_Without
  refine loop_r (fun cc vs w => ∃ (i : Nat) (v' : Value) (Ho : List Blk), i ≤ L.length ∧ vs = [v', int i] ∧ cc = L.length - i ∧ W.Own 86 2 v' (prs (delL key (L.take i))) Ho ∧ Sat G w (Ho ++ H)) L.length ⟨0, _, [], by omega, rfl, rfl, .nil, hs⟩ ?_
  clear hs
  rintro J cc vs w next ⟨i, v', Ho, hi, rfl, rfl, ho, hs⟩ hnext
  refine hr.len L.length (prs_len _) (by decide) ?_
  have hr' : Rd 2 v (prs L) (Ho ++ H) := hr.mono fun q hq => by simp [hq]
  refine bin_lss (Br_d (fun hc => ?_) (fun hc => ?_))
  · have hi' : i < L.length := by
      have : (i : Int) < L.length := hc
      omega
    have htk : L.take (i + 1) = L.take i ++ [L[i]] := by rw [List.take_add_one, List.getElem?_eq_getElem hi']; rfl
    have hlt : (delL key (L.take i)).length ≤ i := by
      have := List.length_filter_le (fun e : Pr => decide (e.1 ≠ key)) (L.take i)
      unfold delL
      simp at this ⊢; omega
    refine rd_fst hr' hs hi' ?_
    refine bin_neq (Br_ne (fun he => ?_) (fun he => ?_))
    · refine Rd.ldN (f := pr) hr' hs (fun _ _ => rfl) (by decide) hi' ?_
      refine appA_r (cs := pr L[i]) hs ho .here rfl rfl (by simp [Value.oneCell']) (by decide) (by decide) (by decide) (by rw [prs_len]; omega) fun v2 Ho2 w ho2 hs => ?_
      refine bin_add (by omega) (by omega) (hnext (L.length - (i + 1)) _ _ (by omega) ⟨i + 1, v2, Ho2, by omega, rfl, rfl, ?_, hs⟩)
      have : prs (delL key (L.take i)) ++ pr L[i] = prs (delL key (L.take (i + 1))) := by
        rw [htk]; unfold delL
        rw [List.filter_append, show [L[i]].filter (fun e => decide (e.1 ≠ key)) = [L[i]] by simp [he], prs_app]; rfl
      rw [← this]; exact ho2
    · refine bin_add (by omega) (by omega) (hnext (L.length - (i + 1)) _ _ (by omega) ⟨i + 1, v', Ho, by omega, rfl, rfl, ?_, hs⟩)
      have : delL key (L.take (i + 1)) = delL key (L.take i) := by
        rw [htk]; unfold delL
        rw [List.filter_append, show [L[i]].filter (fun e => decide (e.1 ≠ key)) = [] by simp [he], List.append_nil]
      rw [this]; exact ho
  · have hi' : i = L.length := by
      have : ¬ (i : Int) < L.length := hc
      omega
    subst hi'
    rw [List.take_length] at ho
    exact hk v' Ho w ho hs
theorem ref_Set {key val : Int} {L : List Pr} {v : Value} (hs : Sat G w H) (hr : Rd 2 v (prs L) H) (hL : Srt L) (hlen : L.length < 100000) (hk : ∀ v' Ho w', W.Own 86 2 v' (prs (setL key val L)) Ho → Sat G w' (Ho ++ H) → k v' w') : call Tryz.prog w 37 [v, int key, int val] k := by
  refine b_portageref12_Set_walk ?_
  unfold b_portageref12_Set
  refine loop_r (fun cc vs w => ∃ (i : Nat) (v' : Value) (put : Bool) (o : List Pr) (Ho : List Blk), i ≤ L.length ∧ vs = [v', .bool put, int i] ∧ cc = L.length - i ∧ (put = false → (∀ e ∈ L.take i, e.1 < key) ∧ o = L.take i) ∧ (put = true → (∃ e ∈ L.take i, key ≤ e.1) ∧ o = setL key val (L.take i)) ∧ o.length ≤ 100000 + i ∧ W.Own 86 2 v' (prs o) Ho ∧ Sat G w (Ho ++ H)) L.length ⟨0, _, false, [], [], by omega, rfl, rfl, fun _ => ⟨by simp, rfl⟩, fun h => by simp at h, by simp, .nil, hs⟩ ?_
  clear hs
  rintro J cc vs w next ⟨i, v', put, o, Ho, hi, rfl, rfl, hf, ht, hol, ho, hs⟩ hnext
  refine hr.len L.length (prs_len _) (by decide) ?_
  refine bin_lss (Br_d (fun hc => ?_) (fun hc => ?_))
  · have hi' : i < L.length := by
      have : (i : Int) < L.length := hc
      omega
    have htk : L.take (i + 1) = L.take i ++ [L[i]] := by rw [List.take_add_one, List.getElem?_eq_getElem hi']; rfl
    have hin : L[i] ∈ L.take (i + 1) := by
      rw [htk]; exact List.mem_append_right _ (.head _)
    have hlast : ∀ e ∈ L.take i, e.1 < L[i].1 := by
      intro e he
      obtain ⟨j, hj, rfl⟩ := List.getElem_of_mem he
      simp at hj
      rw [List.getElem_take]
      exact List.pairwise_iff_getElem.1 hL j i (by omega) hi' (by omega)
    -- the second half of a round
    have two : ∀ (v2 : Value) (put2 : Bool) (o2 : List Pr) (Ho2 : List Blk) (w : World), W.Own 86 2 v2 (prs o2) Ho2 → Sat G w (Ho2 ++ H) → o2.length ≤ 100001 + i →
        (L[i].1 ≠ key → (put2 = false → (∀ e ∈ L.take (i + 1), e.1 < key) ∧ o2 ++ [L[i]] = L.take (i + 1)) ∧ (put2 = true → (∃ e ∈ L.take (i + 1), key ≤ e.1) ∧ o2 ++ [L[i]] = setL key val (L.take (i + 1)))) →
        (L[i].1 = key → put2 = true ∧ o2 = setL key val (L.take (i + 1))) → (L[i].1 ≠ key → o2.length + 1 ≤ 100000 + (i + 1)) → o2.length ≤ 100000 + (i + 1) →
        b_portageref12_Setj1 v (int key) (int val) v2 (.bool put2) (int i) next k w := by
      intro v2 put2 o2 Ho2 w ho2 hs hl2 hne heq hb1 hb2
      unfold b_portageref12_Setj1
      have hr' : Rd 2 v (prs L) (Ho2 ++ H) := hr.mono fun q hq => by simp [hq]
      refine rd_fst hr' hs hi' ?_
      refine bin_neq (Br_ne (fun he => ?_) (fun he => ?_))
      · refine Rd.ldN (f := pr) hr' hs (fun _ _ => rfl) (by decide) hi' ?_
        refine appA_r (cs := pr L[i]) hs ho2 .here rfl rfl (by simp [Value.oneCell']) (by decide) (by decide) (by decide) (by rw [prs_len]; omega) fun v3 Ho3 w ho3 hs => ?_
        have e3 : prs o2 ++ pr L[i] = prs (o2 ++ [L[i]]) := by rw [prs_app]; rfl
        rw [e3] at ho3
        exact bin_add (by omega) (by omega) (hnext (L.length - (i + 1)) _ _ (by omega) ⟨i + 1, v3, put2, _, Ho3, by omega, rfl, rfl, (hne he).1, (hne he).2, by have := hb1 he; simp; omega, ho3, hs⟩)
      · obtain ⟨q1, q2⟩ := heq he
        subst q1
        exact bin_add (by omega) (by omega) (hnext (L.length - (i + 1)) _ _ (by omega) ⟨i + 1, v2, true, _, Ho2, by omega, rfl, rfl, fun h => by simp at h, fun _ => ⟨⟨L[i], hin, by omega⟩, q2⟩, by omega, ho2, hs⟩)
    cases put with
    | false =>
      obtain ⟨hlt, rfl⟩ := hf rfl
      have htl : (L.take i).length ≤ i := by rw [List.length_take]; omega
      refine un_not (Br_t ?_)
      have hr' : Rd 2 v (prs L) (Ho ++ H) := hr.mono fun q hq => by simp [hq]
      refine rd_fst hr' hs hi' ?_
      refine bin_geq (Br_d (fun hge => ?_) (fun hge => ?_))
      · refine bld_r (zero := [int 0, int 0]) (cs := pr (key, val)) rfl ?_
        refine appA_r (cs := pr (key, val)) hs ho .here rfl rfl (by simp [Value.oneCell']) (by decide) (by decide) (by decide) (by rw [prs_len]; omega) fun v3 Ho3 w ho3 hs => ?_
        have e3 : prs (L.take i) ++ pr (key, val) = prs (L.take i ++ [(key, val)]) := by rw [prs_app]; rfl
        rw [e3] at ho3
        refine two v3 true _ Ho3 w ho3 hs (by rw [List.length_append, List.length_singleton]; omega) (fun hne => ⟨fun h => by simp at h, fun _ => ⟨⟨L[i], hin, by omega⟩, ?_⟩⟩) (fun he => ⟨rfl, ?_⟩) (fun _ => by rw [List.length_append, List.length_singleton]; omega) (by rw [List.length_append, List.length_singleton]; omega)
        · rw [htk, set_snoc_gt (by omega), set_lt hlt]
        · rw [htk, set_snoc_eq he, set_lt hlt]
      · refine two v' false _ Ho w ho hs (by omega) (fun hne => ⟨fun _ => ⟨fun e he => ?_, htk.symm⟩, fun h => by simp at h⟩) (fun he => by omega) (fun _ => by omega) (by omega)
        rw [htk] at he
        rcases List.mem_append.1 he with he | he
        · exact hlt e he
        · simp at he; subst he; omega
    | true =>
      obtain ⟨⟨e0, he0, hge⟩, rfl⟩ := ht rfl
      have hsl : (setL key val (L.take i)).length ≤ i + 1 := by
        have h2 : (L.take i).length ≤ i := by rw [List.length_take]; omega
        have h3 := set_len key val (L.take i)
        omega
      refine un_not (Br_f ?_)
      have := hlast e0 he0
      refine two v' true _ Ho w ho hs (by omega) (fun hne => ⟨fun h => by simp at h, fun _ => ⟨⟨L[i], hin, by omega⟩, ?_⟩⟩) (fun he => by omega) (fun _ => by omega) (by omega)
      rw [htk, set_snoc_gt (by omega)]
  · have hi' : i = L.length := by
      have : ¬ (i : Int) < L.length := hc
      omega
    subst hi'
    rw [List.take_length] at hf ht
    cases put with
    | false =>
      obtain ⟨hlt, rfl⟩ := hf rfl
      refine un_not (Br_t ?_)
      refine bld_r (zero := [int 0, int 0]) (cs := pr (key, val)) rfl ?_
      refine appA_r (cs := pr (key, val)) hs ho .here rfl rfl (by simp [Value.oneCell']) (by decide) (by decide) (by decide) (by rw [prs_len]; omega) fun v3 Ho3 w ho3 hs => ?_
      refine hk v3 Ho3 w ?_ hs
      rw [set_lt hlt, prs_app]; exact ho3
    | true =>
      obtain ⟨_, rfl⟩ := ht rfl
      exact un_not (Br_f (hk v' Ho w ho hs))
end
end Go.Proofs.YtemenmmekddjaaaGreatDoor
end
section
namespace Go.Proofs.YtemenmmekddjaaaGreatDoor
open Go Go.Wx Go.W
variable {ω : Go.W.Origin}
abbrev tcells (sb b : Nat) (r : Nat → Int) (lv : Nat → Value) : List Value := [ptr sb, ptr b, int (r 0), int (r 1), int (r 2), int (r 3), lv 0, lv 1, lv 2, lv 3]
theorem tc_r {sb b i : Nat} {r : Nat → Int} {lv : Nat → Value} (hi : i < 4) : (tcells sb b r lv)[0 + 2 + (i : Int).toNat * 1]? = some (int (r i)) :=
  cases4 (P := fun i => (tcells sb b r lv)[0 + 2 + (i : Int).toNat * 1]? = some (int (r i))) hi rfl rfl rfl rfl
theorem tc_l {sb b i : Nat} {r : Nat → Int} {lv : Nat → Value} (hi : i < 4) : (tcells sb b r lv)[0 + 6 + (i : Int).toNat * 1]? = some (lv i) :=
  cases4 (P := fun i => (tcells sb b r lv)[0 + 6 + (i : Int).toNat * 1]? = some (lv i)) hi rfl rfl rfl rfl
def sees (n : Nat) (S : List Int) : List Value := (List.range n).map fun j : Nat => Value.bool (decide ((j : Int) ∈ S))
theorem sees_len {n : Nat} {S : List Int} : (sees n S).length = n := by unfold sees; simp
theorem sees_nil (n : Nat) : List.replicate n (Value.bool false) = sees n [] := by
  unfold sees
  apply List.ext_getElem <;> simp
theorem zero_sees (n : Nat) : zeroRow n [Value.bool false] = (sees n []).toArray := by
  rw [zeroRow_toList, ← sees_nil]; simp
theorem sees_get {n : Nat} {S : List Int} {j : Nat} (hj : j < n) : (sees n S)[j]? = some (.bool (decide ((j : Int) ∈ S))) := by
  unfold sees; simp [hj]
theorem sees_set {n : Nat} {S S' : List Int} {j : Nat} (h : ∀ x : Int, x ∈ S' ↔ x = j ∨ x ∈ S) : (sees n S).set j (.bool true) = sees n S' := by
  unfold sees
  apply List.ext_getElem
  · simp
  · intro m h1 h2
    rw [List.getElem_set]
    simp only [List.getElem_map, List.getElem_range]
    split
    · rename_i e; subst e
      rw [decide_eq_true ((h _).2 (.inl rfl))]
    · rename_i e
      congr 1
      rw [Bool.eq_iff_iff, decide_eq_true_eq, decide_eq_true_eq, h]
      constructor
      · exact .inr
      · rintro (h | h)
        · omega
        · exact h
def levs (n : Nat) (f : Nat → Nat) : List Value := (List.range n).map fun j => int (f j)
theorem levs_len {n : Nat} {f : Nat → Nat} : (levs n f).length = n := by unfold levs; simp
theorem levs_get {n : Nat} {f : Nat → Nat} {j : Nat} (hj : j < n) : (levs n f)[j]? = some (int (f j)) := by
  unfold levs; simp [hj]
theorem levs_set {n : Nat} {f g : Nat → Nat} {j : Nat} (h : ∀ m, g m = if m = j then f j + 1 else f m) : (levs n f).set j (int ((f j : Int) + 1)) = levs n g := by
  unfold levs
  apply List.ext_getElem
  · simp
  · intro m h1 h2
    rw [List.getElem_set]
    simp only [List.getElem_map, List.getElem_range]
    rw [h]
    split
    · rename_i e; subst e
      rw [if_pos rfl]; simp
    · rename_i e
      rw [if_neg (Ne.symm e)]
section
variable {G H A R Hb Hc Hv P Rb HL : List Blk} {w : World} {k : K} {bt b bb sb : Nat} {σ σ' : Sto} {wv : Value} {Q : RoomI} {D : List Int} {r : Nat → Int} {L : Nat → List Pr} {lv : Nat → Value} {N : Nat}
theorem idx4 {i : Nat} (hi : i < 4) (hk : k (int (r i)) w) : W.idxV w 4 1 none (.agg [int (r 0), int (r 1), int (r 2), int (r 3)].toArray) (int i) k := by
  revert hk
  refine cases4 (P := fun i => k (int (r i)) w → W.idxV w 4 1 none (.agg [int (r 0), int (r 1), int (r 2), int (r 3)].toArray) (int i) k) hi ?_ ?_ ?_ ?_ <;> exact fun hk => ⟨_, rfl, hk⟩
theorem sees_ld {n j : Nat} {S : List Int} {v : Value} (hs : Sat G w H) (hr : Rd 1 v (sees n S) H) (hj : j < n) (hk : k (.bool (decide ((j : Int) ∈ S))) w) : W.idx w 1 v (int j) fun t w => W.ld w t k := by
  unfold sees at hr
  refine hr.ld1 hs (i := j) (by rw [List.length_range]; exact hj) ?_
  rw [List.getElem_range]
  exact hk
theorem law_holds (ht : Top Q σ D r L N) (hN : N ≤ 1000) (h : WldR G b bb sb σ wv P Hb) (hs : Sat G w A) (hsel : Sel Hb A Rb) (hbt : (bt, row 33 (tcells sb b r lv)) ∈ A) (hl : ∀ i < 4, Rd 2 (lv i) (prs (L i)) A)
    (hlen : ∀ D : List Int, D.Nodup → (∀ a ∈ D, σ.pg a ≠ none) → D.length < 65536)
    (hk : ∀ w', Sat G w' A → k (.bool true) w') : call Tryz.prog w 16 [ptr bt] k := by
  refine b_portagelaw12_trees_holds_walk ?_
  unfold b_portagelaw12_trees_holds
  refine ⟨.i64, 32768, .i64, 32768, rfl, rfl, by decide, by decide, by decide, by decide, rfl, ?_⟩
  have hz : zeroRow (32768 : Int).toNat (#[Value.bool false] : Array Value).toList = (sees 32768 []).toArray := zero_sees 32768
  rw [hz]
  have hs := hs.alloc (row 4 (sees 32768 []))
  generalize w.heap.size = bg at *
  have hseen0 : W.Own 4 1 (.slice (some ⟨bg, 0, none⟩) 32768 32768) (sees 32768 []) [(bg, row 4 (sees 32768 [] ++ []))] := .some (by rw [sees_len]) (by rw [List.append_nil, sees_len])
  rw [List.append_nil] at hseen0
  have hokN := ht.okN
  refine nn_r (add_r (ldN_r (vs := [int (r 0), int (r 1), int (r 2), int (r 3)]) hs (.tail _ hbt) rfl rfl ?_))
  refine loop_r (fun cc vs w => ∃ (i : Nat) (S : List Int) (Hx : List Blk), i ≤ 4 ∧ vs = [int S.length, int i] ∧ cc = 4 - i ∧ S.Nodup ∧ (∀ a, a ∈ S ↔ ∃ j < i, TPg σ.nd (r j) a) ∧ W.Own 4 1 (.slice (some ⟨bg, 0, none⟩) 32768 32768) (sees 32768 S) Hx ∧ Sat G w (Hx ++ A)) 4 ⟨0, [], _, by omega, rfl, rfl, .nil, fun a => ⟨fun h => by simp at h, fun ⟨j, hj, _⟩ => by omega⟩, hseen0, hs⟩ ?_
  clear hs hseen0 hz
  rintro J cc vs w next1 ⟨i, S, Hx, hi, rfl, rfl, hSn, hS, hox, hs⟩ hnext1
  have hSpg : ∀ x ∈ S, σ.pg x ≠ none := fun x hx => by
    obtain ⟨j, hj, h1⟩ := (hS x).1 hx
    exact (ht.all x).1 ⟨j, by omega, h1⟩
  refine bin_lss (Br_d (fun hc => ?_) (fun hc => ?_))
  · have hi4 : i < 4 := by
      have : (i : Int) < 4 := hc
      omega
    have hrt := ht.rootT hi4
    have hpos := ht.pos hi4
    have hlL := ht.len i hi4
    refine idx4 hi4 ?_
    refine drawS_r (fun w => Sat G w (Hx ++ A)) hs fun w hs => ?_
    have hbt' : (bt, row 33 (tcells sb b r lv)) ∈ Hx ++ A := List.mem_append_right _ hbt
    refine nn_r (add_r (nn_r (add_r (idxA_r (by omega) (by omega) ?_))))
    refine held_ld hs hbt' rfl (held_ld hs hbt' (tc_l hi4) ?_)
    refine bt_Items hs h (.app hsel) hokN hrt hpos (by omega) fun v0 H0 w ho0 hs => ?_
    refine ⟨hs.drop, ?_⟩
    refine law_pairs (L := L i) hs (ho0.rd fun q hq => by simp [hq]) ((hl i hi4).mono fun q hq => by simp [hq]) (by omega) fun w hs => ?_
    refine ⟨hs.drop, un_not (Br_f ?_)⟩
    have hs := hs.drop
    refine nn_r (add_r (held_ld hs hbt' rfl ?_))
    refine bt_Check hs h (.app hsel) hokN hrt (fun hn => ?_) ht.zero (ht.srt hi4) hpos (by omega) fun w hs => ?_
    · rcases ht.root hi4 with ⟨e, _⟩ | ⟨_, _, _, hne, _⟩
      · exact e
      · exact absurd (nd_none.1 hn) hne
    refine ⟨hs, eq_nn (Br_f ?_)⟩
    refine nn_r (add_r (nn_r (add_r (idxA_r (by omega) (by omega) ?_))))
    refine held_ld hs hbt' rfl (held_ld hs hbt' (tc_l hi4) ?_)
    refine (hl i hi4).len (L i).length (prs_len _) (by decide) ?_
    refine bt_Count hs h (.app hsel) hokN hrt hpos (by omega) fun w hs => ?_
    refine ⟨hs, bin_neq ?_⟩
    rw [show (((L i).length : Int) != (L i).length) = false by simp]
    refine Br_f (bin_eql ?_)
    refine nn_r (add_r (idxA_r (by omega) (by omega) ?_))
    refine held_ld hs hbt' (tc_l hi4) ?_
    refine (hl i hi4).len (L i).length (prs_len _) (by decide) (bin_eql (eq_bool ?_))
    have h00 : (r i == 0) = (((L i).length : Int) == 0) := by
      have := ht.root0 hi4
      rw [Bool.eq_iff_iff, beq_iff_eq, beq_iff_eq, this]
      cases L i <;> simp; omega
    rw [h00, show (true != ((((L i).length : Int) == 0) == (((L i).length : Int) == 0))) = false by simp]
    refine Br_f ?_
    refine new_r (cs := levs 21 fun _ => 0) hs fun b8 w hs => ?_
    refine nn_r (add_r (ld_r hs (.tail _ hbt') rfl ?_))
    refine bt_Pages hs h (.cons (.app hsel)) hokN hrt hlen fun vl l Hl w htl hol hs => ?_
    have hrl : Rd 1 vl (l.map int) (Hl ++ ((b8, row 139 (levs 21 fun _ => 0)) :: (Hx ++ A))) := hol.rd fun q hq => by simp [hq]
    have hll : l.length < 65536 := hlen l (htl.1.imp fun h => by omega) fun a ha => (ht.all a).1 ⟨i, hi4, (htl.iff a).1 ha⟩
    refine hrl.len l.length (by simp) (by decide) ?_
    refine loop_r (fun cc vs w => ∃ (m : Nat) (S' : List Int) (last : Int) (Hx : List Blk), m ≤ l.length ∧ vs = [int S'.length, int last, int m] ∧ cc = l.length - m ∧ S'.Nodup ∧ (∀ a, a ∈ S' ↔ a ∈ S ∨ a ∈ l.take m) ∧ (∀ x ∈ l.drop m, last < x) ∧ W.Own 4 1 (.slice (some ⟨bg, 0, none⟩) 32768 32768) (sees 32768 S') Hx ∧ Sat G w (Hl ++ ((b8, row 139 (levs 21 fun j => atLv σ.nd (l.take m) j)) :: (Hx ++ A)))) l.length ⟨0, S, 0, Hx, by omega, rfl, rfl, hSn, fun a => by simp, fun x hx => ?_, hox, hs⟩ ?_
    · obtain ⟨p, _, h2, _⟩ := ht.tpg hi4 ((htl.iff x).1 hx)
      omega
    clear hs hox hrl hbt'
    rintro J cc vs w next2 ⟨m, S', last, Hx, hm, rfl, rfl, hSn', hS', hlast, hox, hs⟩ hnext2
    have hrl : Rd 1 vl (l.map int) (Hl ++ ((b8, row 139 (levs 21 fun j => atLv σ.nd (l.take m) j)) :: (Hx ++ A))) := hol.rd fun q hq => by simp [hq]
    refine bin_lss (Br_d (fun hc => ?_) (fun hc => ?_))
    · have hm' : m < l.length := by
        have : (m : Int) < l.length := hc
        omega
      refine hrl.ld1 hs hm' ?_
      obtain ⟨p, hp, ha2, ha3, hlv20⟩ := ht.tpg hi4 ((htl.iff l[m]).1 (List.getElem_mem hm'))
      have hlvo : lvO σ.nd l[m] = p.n.lv := by unfold lvO; rw [nd_of_pg hp]
      refine nn_r (add_r (ld_r hs (List.mem_append_right _ (.tail _ (List.mem_append_right _ hbt))) rfl ?_))
      refine pages_Get hs h (.app (.cons (.app hsel))) hp fun v0 X w hnd hs => ?_
      obtain ⟨k3, u3, rfl, g1, g2⟩ := hnd
      refine tup_r rfl (tup_r rfl ?_)
      refine new_r (cs := [int 0, .slice none 0 0, .slice none 0 0]) hs fun b11 w hs => ?_
      refine stN_r (vs := [int p.n.lv, k3, u3]) hs .head rfl (by simp) (fun y hy => by
        simp only [List.mem_cons, List.not_mem_nil, or_false] at hy
        rcases hy with rfl | rfl | rfl
        · rfl
        · exact g1.one
        · exact g2.one) fun w hs => ?_
      have hs : Sat G w ((b11, row 119 [int p.n.lv, k3, u3]) :: (X ++ (Hl ++ ((b8, row 139 (levs 21 fun j => atLv σ.nd (l.take m) j)) :: (Hx ++ A))))) := hs
      refine eq_nn (Br_f ?_)
      refine bin_leq (Br_d (fun hle => ?_) (fun _ => ?_))
      · have := hlast l[m] (by rw [← List.getElem_cons_drop (h := hm')]; exact .head _)
        omega
      refine add_r (ld_r hs (.head _) rfl (bin_lss (Br_d (fun h => by omega) (fun _ => ?_))))
      refine add_r (ld_r hs (.head _) rfl (bin_gtr (Br_d (fun h => by omega) (fun _ => ?_))))
      refine add_r (ld_r hs (.head _) rfl ?_)
      have hb8 : ∀ {f : Nat → Nat}, (b8, row 139 (levs 21 f)) ∈ (b11, row 119 [int p.n.lv, k3, u3]) :: (X ++ (Hl ++ ((b8, row 139 (levs 21 f)) :: (Hx ++ A)))) := fun {f} => .tail _ (List.mem_append_right _ (List.mem_append_right _ (.head _)))
      have htk : l.take (m + 1) = l.take m ++ [l[m]] := by rw [List.take_add_one, List.getElem?_eq_getElem hm']; rfl
      have hle := atLv_le hokN htl hrt (List.take_sublist (m + 1) l) p.n.lv
      have hle0 := atLv_le hokN htl hrt (List.take_sublist m l) p.n.lv
      refine idxA_r (by omega) (by omega) (ld_r hs hb8 (v := int (atLv σ.nd (l.take m) p.n.lv)) (by simpa using levs_get (f := fun j => atLv σ.nd (l.take m) j) (j := p.n.lv) (n := 21) (by omega)) ?_)
      refine bin_add (by omega) (by omega) (idxA_r (by omega) (by omega) ?_)
      have hset : (levs 21 fun j => atLv σ.nd (l.take m) j).set (0 + (p.n.lv : Int).toNat * 1) (int ((atLv σ.nd (l.take m) p.n.lv : Int) + 1)) = levs 21 fun j => atLv σ.nd (l.take (m + 1)) j := by
        have := levs_set (n := 21) (f := fun j => atLv σ.nd (l.take m) j) (g := fun j => atLv σ.nd (l.take (m + 1)) j) (j := p.n.lv) (fun j => by rw [htk, atLv_snoc, hlvo]; split <;> simp_all)
        simpa using this
      refine st_r hs (.cons (.app (.app .head))) (by rw [levs_len]; omega) rfl fun w hs => ?_
      rw [hset] at hs
      refine drawS_r (fun w => Sat G w ((b11, row 119 [int p.n.lv, k3, u3]) :: (X ++ (Hl ++ ((b8, row 139 (levs 21 fun j => atLv σ.nd (l.take (m + 1)) j)) :: (Hx ++ A)))))) hs fun w hs => ?_
      refine add_r (nn_r (add_r (idxA_r (by omega) (by omega) ?_)))
      refine held_ld hs (.head _) rfl (idxA_r (by omega) (by omega) ?_)
      refine held_ld (v := int (atLv σ.nd (l.take (m + 1)) p.n.lv)) hs hb8 (by simpa using levs_get (f := fun j => atLv σ.nd (l.take (m + 1)) j) (j := p.n.lv) (n := 21) (by omega)) ?_
      refine held_ld hs (.tail _ (List.mem_append_right _ (List.mem_append_right _ (.tail _ (List.mem_append_right _ hbt))))) (tc_l hi4) ?_
      refine (hl i hi4).len (L i).length (prs_len _) (by decide) ?_
      refine bin_gtr (Br_d (fun h => by omega) (fun _ => ?_))
      have hlm : l[m] = ((l[m].toNat : Nat) : Int) := by omega
      have hjl : l[m].toNat < 32768 := by omega
      have hrx : Rd 1 (.slice (some ⟨bg, 0, none⟩) 32768 32768) (sees 32768 S') ((b11, row 119 [int p.n.lv, k3, u3]) :: (X ++ (Hl ++ ((b8, row 139 (levs 21 fun j => atLv σ.nd (l.take (m + 1)) j)) :: (Hx ++ A))))) := hox.rd fun q hq => by simp [hq]
      have hdrop : ∀ x ∈ l.drop (m + 1), l[m] < x := fun x hx => by
        have := htl.1
        rw [← List.take_append_drop m l, List.pairwise_append, ← List.getElem_cons_drop (h := hm')] at this
        exact (List.pairwise_cons.1 this.2.1).1 x hx
      have hsel' : ∀ {l8 : List Value}, Sel Hx ((b11, row 119 [int p.n.lv, k3, u3]) :: (X ++ (Hl ++ ((b8, row 139 l8) :: (Hx ++ A))))) ((b11, row 119 [int p.n.lv, k3, u3]) :: (X ++ (Hl ++ ((b8, row 139 l8) :: A)))) := fun {l8} => .cons (.app (.app (.cons .here)))
      have rd1 : ∀ {kk : K}, kk (.bool (decide (l[m] ∈ S'))) w → (W.idx w 1 (.slice (some ⟨bg, 0, none⟩) 32768 32768) (int l[m]) fun t w => W.ld w t kk) := by
        intro kk hkk
        rw [hlm]
        refine sees_ld hs hrx hjl ?_
        rw [← hlm]
        exact hkk
      refine rd1 ?_
      by_cases hin : l[m] ∈ S'
      · rw [decide_eq_true hin]
        refine un_not (Br_f ?_)
        rw [hlm]
        refine hox.st hs hsel' (by rw [sees_len]; exact hjl) rfl fun Hx2 w hox2 hs => ?_
        rw [sees_set (S' := S') (fun x => ⟨.inr, fun h => h.elim (fun e => by rw [e, ← hlm]; exact hin) id⟩)] at hox2
        refine bin_add (by omega) (by omega) ?_
        rw [← hlm]
        refine hnext2 (l.length - (m + 1)) _ _ (by omega) ⟨m + 1, S', l[m], Hx2, by omega, rfl, rfl, hSn', fun a => ?_, hdrop, hox2, ?_⟩
        · rw [hS', htk]
          constructor
          · rintro (h | h)
            · exact .inl h
            · exact .inr (List.mem_append_left _ h)
          · rintro (h | h)
            · exact .inl h
            · rcases List.mem_append.1 h with h | h
              · exact .inr h
              · simp at h; subst h
                exact (hS' _).1 hin
        · exact ((hs.perm (H' := ((b11, row 119 [int p.n.lv, k3, u3]) :: X) ++ (Hl ++ ((b8, row 139 (levs 21 fun j => atLv σ.nd (l.take (m + 1)) j)) :: (Hx2 ++ A)))) (by refine perm_of_cnt fun a => ?_; simp only [cnt_app, cnt_cons, cnt_nil] at *; omega)).drop)
      · rw [decide_eq_false hin]
        refine un_not (Br_t ?_)
        have hSl : S'.length < 65536 := hlen S' hSn' fun a ha => by
          rcases (hS' a).1 ha with h | h
          · exact hSpg a h
          · exact (ht.all a).1 ⟨i, hi4, (htl.iff a).1 (List.mem_of_mem_take h)⟩
        refine bin_add (by omega) (by omega) ?_
        rw [hlm]
        refine hox.st hs hsel' (by rw [sees_len]; exact hjl) rfl fun Hx2 w hox2 hs => ?_
        rw [sees_set (S' := l[m] :: S') (fun x => by rw [List.mem_cons, ← hlm])] at hox2
        refine bin_add (by omega) (by omega) ?_
        rw [← hlm]
        refine hnext2 (l.length - (m + 1)) _ _ (by omega) ⟨m + 1, l[m] :: S', l[m], Hx2, by omega, by simp, rfl, List.nodup_cons.2 ⟨hin, hSn'⟩, fun a => ?_, hdrop, hox2, ?_⟩
        · rw [List.mem_cons, hS', htk, List.mem_append, List.mem_singleton]
          constructor
          · rintro (h | h | h)
            · exact .inr (.inr h)
            · exact .inl h
            · exact .inr (.inl h)
          · rintro (h | h | h)
            · exact .inr (.inl h)
            · exact .inr (.inr h)
            · exact .inl h
        · exact ((hs.perm (H' := ((b11, row 119 [int p.n.lv, k3, u3]) :: X) ++ (Hl ++ ((b8, row 139 (levs 21 fun j => atLv σ.nd (l.take (m + 1)) j)) :: (Hx2 ++ A)))) (by refine perm_of_cnt fun a => ?_; simp only [cnt_app, cnt_cons, cnt_nil] at *; omega)).drop)
    · have hm' : m = l.length := by
        have : ¬ (m : Int) < l.length := hc
        omega
      subst hm'
      rw [List.take_length] at hS'
      refine bin_add (by omega) (by omega) ?_
      refine hnext1 (4 - (i + 1)) _ _ (by omega) ⟨i + 1, S', Hx, by omega, rfl, rfl, hSn', fun a => ?_, hox, hs.drop.tail⟩
      rw [hS', hS, htl.iff]
      constructor
      · rintro (⟨j, hj, h1⟩ | h1)
        · exact ⟨j, by omega, h1⟩
        · exact ⟨i, by omega, h1⟩
      · rintro ⟨j, hj, h1⟩
        by_cases e : j = i
        · subst e; exact .inr h1
        · exact .inl ⟨j, by omega, h1⟩
  · have hi4 : i = 4 := by
      have : ¬ (i : Int) < 4 := hc
      omega
    subst hi4
    refine nn_r (add_r (ld_r hs (List.mem_append_right _ hbt) rfl ?_))
    refine pages_Pages hs h (.app hsel) hlen fun v l Ho w hpl ho hs => ?_
    refine (ho.rd (H := Ho) fun q hq => hq).len l.length (by simp) (by decide) (bin_eql ?_)
    have hperm : S.Perm l := (List.perm_ext_iff_of_nodup hSn (hpl.1.imp fun h => by omega)).2 fun a => by rw [hS, ht.all, hpl.2]
    rw [hperm.length_eq]
    simp only [beq_self_eq_true]
    exact hk w hs.drop.drop
end
end Go.Proofs.YtemenmmekddjaaaGreatDoor
end
