/- What the functions of package btree do: writing nodes. No condition. What the functions of package btree do: going down. No condition. What the functions of package btree do: changes. No condition. What the functions of package btree do: a change that is done. No condition. What the functions of package btree do: Set, Delete, Find. No condition. What the functions of package btree do: Find, Set, Delete. No condition. What the functions of package btree do: Items, Count, Check. No condition. -/
import Derived.Test.YtemenmmekddjaaaGreatDoorJ04
import Derived.Test.YtemenmmekddjaaaGreatDoorJ29
set_option linter.all false
set_option linter.unusedVariables false
set_option linter.unusedSimpArgs false
set_option linter.unnecessarySimpa false
set_option linter.unusedSectionVars false
set_option linter.constructorNameAsVariable false
section
namespace Go.Proofs.YtemenmmekddjaaaGreatDoor
open Go Go.Wx Go.W
variable {ω : Go.W.Origin}
/-- a change: the pages that were put. -/
inductive ChgR (cb b : Nat) (c : List Int) : List Blk → Prop
  | mk {v : Value} {Hv : List Blk} (ho : W.Own 3 1 v (c.map int) Hv) : ChgR cb b c ((cb, row 166 [ptr b, v]) :: Hv)
section
variable {G H H' R Hb Hc Hv P : List Blk} {w : World} {k : K} {b bb sb cb : Nat} {σ σ' : Sto} {wv : Value}
theorem key0_eq {n : Nd} (h : 0 < n.l.length) : (n.l.map Prod.fst)[0]'(by simpa using h) = key0 n := by
  unfold key0
  rw [List.getElem_map, List.head?_eq_getElem?, List.getElem?_eq_getElem h]; rfl
theorem change_write {v : Value} {ns : List Nd} {c c' : List Int} {r : Option (List Pr)} (hs : Sat G w H) (hT : Tab G) (h : WldR G b bb sb σ wv P Hb) (hc : ChgR cb b c Hc) (hsel : Sel (Hb ++ Hc) H R) (hv : NsV v ns R) (hw : WriteR σ c ns σ' c' r) (hcl : c.length + ns.length < 60000)
    (hk0 : r = none → ∀ X Hb' Hc' w', WldR G b bb sb σ' wv (X ++ P) Hb' → ChgR cb b c' Hc' → Sat G w' (Hb' ++ (Hc' ++ R)) → k (.tuple #[.slice none 0 0, .iface 149 (int 50)]) w')
    (hk : ∀ l, r = some l → ∀ X Hb' Hc' v' Ho w', WldR G b bb sb σ' wv (X ++ P) Hb' → ChgR cb b c' Hc' → W.Own 151 2 v' (prs l) Ho → Sat G w' (Hb' ++ (Hc' ++ (Ho ++ R))) → k (.tuple #[v', .nilIface]) w') : call Tryz.prog w 144 [ptr cb, v] k := by
  refine b_btree_change_write_walk ?_
  unfold b_btree_change_write
  have hs := hs.sel hsel
  obtain ⟨es, rfl, hre, hne⟩ := hv
  have hel : (es.map Prod.fst).length = es.length := by simp
  rw [hel] at hcl
  refine hre.len es.length (flat_len fun _ _ => rfl) (by decide) ?_
  refine loop_r (fun n vs w => ∃ (i : Nat) (σi : Sto) (ci : List Int) (l1 : List Pr) (ri : Option (List Pr)) (v' : Value) (X Hb1 Hc1 Ho : List Blk), i ≤ es.length ∧ vs = [v', int i] ∧ n = es.length - i ∧ WriteR σi ci ((es.map Prod.fst).drop i) σ' c' ri ∧ r = ri.map (l1 ++ ·) ∧ l1.length = i ∧ ci.length = c.length + i ∧
      WldR G b bb sb σi wv (X ++ P) Hb1 ∧ ChgR cb b ci Hc1 ∧ W.Own 151 2 v' (prs l1) Ho ∧ Sat G w (Hb1 ++ (Hc1 ++ (Ho ++ R)))) es.length ⟨0, σ, c, [], r, .slice none 0 0, [], Hb, Hc, [], by omega, rfl, rfl, hw, by simp, rfl, rfl, h, hc, .nil, by simpa using hs⟩ ?_
  rintro J n vs w next ⟨i, σi, ci, l1, ri, v', X, Hb1, Hc1, Ho, hi, rfl, rfl, hw, hr, hl1, hci, hW, hC, ho, hs⟩ hnext
  refine bin_lss (Br_d (fun h => ?_) (fun h => ?_))
  · have hi' : i < es.length := by
      have : (i : Int) < es.length := h
      omega
    have hmR : ∀ {A : List Blk}, ∀ p ∈ R, p ∈ A ++ (Hb1 ++ (Hc1 ++ (Ho ++ R))) := fun p hp => by simp [hp]
    refine (hre.mono (hmR (A := []))).ldN hs (fun _ _ => rfl) (by decide) hi' ?_
    have hE := hne es[i] (List.getElem_mem hi')
    refine new_r (cs := [int 0, .slice none 0 0, .slice none 0 0]) hs fun b8 w hs => ?_
    refine stN_r (vs := ncells es[i]) hs .head rfl (by simp) (fun y hy => by
      simp only [List.mem_cons, List.not_mem_nil, or_false] at hy
      rcases hy with rfl | rfl | rfl
      · rfl
      · exact hE.1.one
      · exact hE.2.one) fun w hs => ?_
    have hs : Sat G w ((b8, row 119 (ncells es[i])) :: (Hb1 ++ (Hc1 ++ (Ho ++ R)))) := hs
    obtain ⟨vc, Hvc, hvc, rfl⟩ : ∃ vc Hvc, W.Own 3 1 vc (ci.map int) Hvc ∧ Hc1 = (cb, row 166 [ptr b, vc]) :: Hvc := by
      cases hC with
      | mk ho => exact ⟨_, _, ho, rfl⟩
    refine drawS_r (fun w => Sat G w ((b8, row 119 (ncells es[i])) :: (Hb1 ++ (((cb, row 166 [ptr b, vc]) :: Hvc) ++ (Ho ++ R))))) hs fun w hs => ?_
    refine nn_r (add_r (held_ld hs (.tail _ (List.mem_append_right _ (.head _))) rfl ?_))
    refine held_ldN (vs := ncells es[i]) hs (.head _) rfl rfl ?_
    have hdrop : (es.map Prod.fst).drop i = es[i].1 :: (es.map Prod.fst).drop (i + 1) := by
      rw [← List.getElem_cons_drop (h := by simpa using hi'), List.getElem_map]
    rw [hdrop] at hw
    have hnd : ∀ {A : List Blk}, NdV (.agg (ncells es[i]).toArray) es[i].1 (A ++ (((cb, row 166 [ptr b, vc]) :: Hvc) ++ (Ho ++ R))) := hE.v.mono fun p hp => by simp [hp]
    generalize hns : (es.map Prod.fst).drop (i + 1) = nsr at hw
    generalize hx : es[i].1 :: nsr = all at hw
    have hput : ∃ σ2 rr, CanPut σi es[i].1 ∧ PutR σi es[i].1 σ2 rr ∧ ((rr = none ∧ σ2 = σ' ∧ ci = c' ∧ ri = none) ∨ ∃ a r2, rr = some a ∧ WriteR σ2 (ci ++ [a]) nsr σ' c' r2 ∧ ri = r2.map fun l => (key0 es[i].1, a) :: l) := by
      cases hw with
      | nil => cases hx
      | full hn hp => cases hx; exact ⟨_, _, hn, hp, .inl ⟨rfl, rfl, rfl, rfl⟩⟩
      | cons hn hp t => cases hx; exact ⟨_, _, hn, hp, .inr ⟨_, _, rfl, t, rfl⟩⟩
    clear hw hx
    obtain ⟨σ2, rr, hcan, hp, hcase⟩ := hput
    refine pages_Put (R := [(b8, row 119 (ncells es[i]))] ++ (((cb, row 166 [ptr b, vc]) :: Hvc) ++ (Ho ++ R))) hs hT hW (.cons .here) hnd hcan hp (fun hn Hb2 w hW2 hs => ?_) (fun a ha X2 Hb2 w hW2 hs => ?_)
    · rcases hcase with ⟨-, e1, e2, e3⟩ | ⟨a, r2, h1, _⟩
      · subst e1 e2 e3
        refine tup_r rfl (tup_r rfl (eq_ifn (Br_t ?_)))
        exact hk0 (by rw [hr]; rfl) X Hb2 _ w hW2 (.mk hvc) ((hs.perm (H' := ((b8, row 119 (ncells es[i])) :: Ho) ++ (Hb2 ++ (((cb, row 166 [ptr b, vc]) :: Hvc) ++ R))) (by refine perm_of_cnt fun a => ?_; simp only [cnt_app, cnt_cons, cnt_nil] at *; omega)).drop)
      · rw [hn] at h1; cases h1
    · subst ha
      rcases hcase with ⟨h1, _⟩ | ⟨a', r2, h1, hw2, hri⟩
      · cases h1
      cases h1
      refine tup_r rfl (tup_r rfl (eq_nn (Br_f ?_)))
      have hs := hs.perm (H' := (cb, row 166 [ptr b, vc]) :: (Hvc ++ (Hb2 ++ ((b8, row 119 (ncells es[i])) :: (Ho ++ R))))) (by refine perm_of_cnt fun a => ?_; simp only [cnt_app, cnt_cons, cnt_nil] at *; omega)
      refine nn_r (add_r (ld_r hs (.head _) rfl ?_))
      refine app1_r hs hvc (.cons .here) rfl (by decide) (by simp; omega) fun vc2 Hvc2 w hvc2 hs => ?_
      have hs := hs.perm (H' := (cb, row 166 [ptr b, vc]) :: (Hvc2 ++ (Hb2 ++ ((b8, row 119 (ncells es[i])) :: (Ho ++ R))))) (by refine perm_of_cnt fun a => ?_; simp only [cnt_app, cnt_cons, cnt_nil] at *; omega)
      refine nn_r (add_r (st_r hs .head (by simp) hvc2.one fun w hs => ?_))
      have hs : Sat G w ((cb, row 166 [ptr b, vc2]) :: (Hvc2 ++ (Hb2 ++ ((b8, row 119 (ncells es[i])) :: (Ho ++ R))))) := hs
      have hl0 : 0 < es[i].1.l.length := hcan.1.2.1
      refine add_r (ld_r hs (.tail _ (List.mem_append_right _ (List.mem_append_right _ (.head _)))) rfl ?_)
      refine (hE.1.mono (H' := (cb, row 166 [ptr b, vc2]) :: (Hvc2 ++ (Hb2 ++ ((b8, row 119 (ncells es[i])) :: (Ho ++ R))))) fun p hp => by simp [hp]).ld1 hs (i := 0) (by simpa using hl0) ?_
      have hk0' := key0_eq hl0
      rw [hk0']
      refine bld_r (zero := [int 0, int 0]) (cs := [int (key0 es[i].1), int a]) rfl ?_
      have hprl : (prs l1).length = i * 2 := by rw [prs_len, hl1]
      refine appA_r (cs := [int (key0 es[i].1), int a]) (R := (cb, row 166 [ptr b, vc2]) :: (Hvc2 ++ (Hb2 ++ ((b8, row 119 (ncells es[i])) :: R)))) (hs.perm (H' := Ho ++ ((cb, row 166 [ptr b, vc2]) :: (Hvc2 ++ (Hb2 ++ ((b8, row 119 (ncells es[i])) :: R))))) (by refine perm_of_cnt fun a => ?_; simp only [cnt_app, cnt_cons, cnt_nil] at *; omega)) ho .here rfl rfl (by simp [Value.oneCell']) (by decide) (by decide) (by decide) (by omega) fun v2 Ho2 w ho2 hs => ?_
      have e2 : prs l1 ++ [int (key0 es[i].1), int a] = prs (l1 ++ [(key0 es[i].1, a)]) := by rw [prs_app]; rfl
      rw [e2] at ho2
      refine bin_add (by omega) (by omega) ?_
      refine hnext (es.length - (i + 1)) _ _ (by omega) ⟨i + 1, σ2, ci ++ [a], l1 ++ [(key0 es[i].1, a)], r2, v2, X2 ++ X, Hb2, (cb, row 166 [ptr b, vc2]) :: Hvc2, Ho2, by omega, rfl, rfl, by rw [hns]; exact hw2, ?_, by simp [hl1], by simp [hci]; omega, by rw [List.append_assoc]; exact hW2, .mk (by simpa using hvc2), ho2, ?_⟩
      · rw [hr, hri]
        cases r2 <;> simp
      · exact (hs.perm (H' := (b8, row 119 (ncells es[i])) :: (Hb2 ++ (((cb, row 166 [ptr b, vc2]) :: Hvc2) ++ (Ho2 ++ R)))) (by refine perm_of_cnt fun a => ?_; simp only [cnt_app, cnt_cons, cnt_nil] at *; omega)).tail
  · have hi' : i = es.length := by
      have : ¬ (i : Int) < es.length := h
      omega
    have hdr : (es.map Prod.fst).drop i = [] := List.drop_eq_nil_iff.2 (by simp; omega)
    rw [hdr] at hw
    cases hw
    have hr : r = some l1 := by rw [hr]; simp
    exact hk l1 hr X Hb1 Hc1 v' Ho w hW hC ho hs
end
end Go.Proofs.YtemenmmekddjaaaGreatDoor
end
section
namespace Go.Proofs.YtemenmmekddjaaaGreatDoor
open Go Go.Wx Go.W
variable {ω : Go.W.Origin}
theorem ext_max {w : World} {k : K} {a b : Int} (hk : k (int (if b > a then b else a)) w) : ext w true (int a) (int b) k := ⟨_, rfl, hk⟩
def singleB : List Nd → Bool
  | [n] => decide (0 < n.lv) && decide (n.l.length = 1)
  | _ => false
def OnlyN (σ : Sto) : Nat → Pr → Pr → Prop
  | 0, x, z => x = z ∧ ∃ p, σ.pg x.2 = some p ∧ (p.n.lv = 0 ∨ 1 < p.n.l.length)
  | m + 1, x, z => ∃ y p, σ.pg x.2 = some p ∧ 0 < p.n.lv ∧ p.n.l = [y] ∧ OnlyN σ m y z
theorem OnlyR.n {σ : Sto} {x z : Pr} (h : OnlyR σ x z) : ∃ m, OnlyN σ m x z := by
  induction h with
  | stop h hs => exact ⟨0, rfl, _, h, hs⟩
  | go h h0 h1 t ih =>
    obtain ⟨m, hm⟩ := ih
    exact ⟨m + 1, _, _, h, h0, h1, hm⟩
theorem FindR.child {l : List Pr} {key at_ : Int} {ex : Bool} (h : FindR l key at_ ex) : (if 0 > at_ then 0 else at_) = (childIx l key : Int) := by
  unfold childIx
  cases h with
  | @yes i hi hA he hB =>
    have : (l.filter fun e => decide (e.1 ≤ key)).length = i + 1 := by
      conv => lhs; rw [at_split hi]
      rw [List.filter_append, List.filter_cons_of_pos (by simp; omega), filter_all (l := l.take i) fun e he => by have := hA e he; simp; omega, filter_none (l := l.drop (i + 1)) fun e he => by have := hB e he; simp; omega]
      simp; omega
    rw [this]
    split <;> omega
  | @no i hi hA hB =>
    have : (l.filter fun e => decide (e.1 ≤ key)).length = i := by
      conv => lhs; rw [← List.take_append_drop i l]
      rw [List.filter_append, filter_all (l := l.take i) fun e he => by have := hA e he; simp; omega, filter_none (l := l.drop i) fun e he => by have := hB e he; simp; omega]
      simp; omega
    rw [this]
    split <;> omega
theorem WriteR.len {σ σ' : Sto} {c c' : List Int} {ns : List Nd} {r : Option (List Pr)} (h : WriteR σ c ns σ' c' r) : c.length ≤ c'.length := by
  induction h with
  | nil => exact Nat.le_refl _
  | full => exact Nat.le_refl _
  | cons _ _ _ ih => simp at ih; omega
theorem DownR.len {f : List Pr → List Pr} {pre : List Pr → Prop} {key : Int} {σ σ' : Sto} {c c' : List Int} {a : Int} {top : Bool} {r : Option (List Pr)} (h : DownR f pre key σ c a top σ' c' r) : c.length ≤ c'.length := by
  induction h with
  | leaf _ _ _ _ _ t => exact t.len
  | fail _ _ _ _ _ ih => exact ih
  | only _ _ _ _ _ _ _ _ _ ih => exact ih
  | node _ _ _ _ _ _ _ _ t2 ih => have := t2.len; omega
section
variable {G H H' R Hb Hc Hv P : List Blk} {w : World} {k : K} {b bb sb cb : Nat} {σ σ' : Sto} {wv : Value}
theorem bt_single {v : Value} {ns : List Nd} (hs : Sat G w H) (hv : NsV v ns H) (hk : k (.bool (singleB ns)) w) : call Tryz.prog w 200 [v] k := by
  refine b_btree_single_walk ?_
  unfold b_btree_single
  obtain ⟨es, rfl, hre, hne⟩ := hv
  refine hre.len es.length (flat_len fun _ _ => rfl) (by decide) ?_
  refine bin_eql (Br_eq (fun h => ?_) (fun h => ?_))
  · have h1 : es.length = 1 := by omega
    obtain ⟨e, rfl⟩ := List.length_eq_one_iff.1 h1
    have hE := hne e (by simp)
    refine hre.idx (i := 0) (fun _ _ => rfl) (by decide) (by simp) fun b0 o0 hl => ?_
    refine add_r (hl.ld (i := 0) hs rfl ?_)
    have hk : k (.bool (decide (0 < e.1.lv) && decide (e.1.l.length = 1))) w := hk
    refine bin_gtr (Br_d (fun h => ?_) (fun h => ?_))
    · have h : 0 < e.1.lv := by
        have : (e.1.lv : Int) > 0 := h
        omega
      rw [decide_eq_true h, Bool.true_and] at hk
      refine hre.idx (i := 0) (fun _ _ => rfl) (by decide) (by simp) fun b1 o1 hl1 => ?_
      refine add_r (hl1.ld (i := 1) hs rfl ?_)
      refine hE.1.len e.1.l.length (by simp) (by decide) (bin_eql ?_)
      have : ((e.1.l.length : Int) == 1) = decide (e.1.l.length = 1) := by
        rw [Bool.eq_iff_iff]; simp; omega
      rw [this]; exact hk
    · have h : ¬ 0 < e.1.lv := by
        have : ¬ (e.1.lv : Int) > 0 := h
        omega
      rw [decide_eq_false h, Bool.false_and] at hk
      exact hk
  · have : singleB (es.map Prod.fst) = false := by
      match es, h with
      | [], _ => rfl
      | [e], h => exact absurd rfl h
      | e1 :: e2 :: l, _ => rfl
    rw [this] at hk; exact hk
theorem bt_only {v : Value} {n : Nd} {y z : Pr} {vc : Value} (hs : Sat G w H) (h : WldR G b bb sb σ wv P Hb) (hsel : Sel Hb H R) (hcb : (cb, row 166 [ptr b, vc]) ∈ R) (hv : NdV v n R) (hn : n.l = [y]) (ho : OnlyR σ y z)
    (hk : ∀ Ho v' w', W.Own 151 2 v' (prs [z]) Ho → Sat G w' (Hb ++ (Ho ++ R)) → k v' w') : call Tryz.prog w 201 [ptr cb, v] k := by
  refine b_btree_change_only_walk ?_
  unfold b_btree_change_only
  obtain ⟨m, hm⟩ := ho.n
  obtain ⟨kv, vv, rfl, h1, h2⟩ := hv
  rw [hn] at h1 h2
  have hs := hs.sel hsel
  refine boxA_r (cs := [int n.lv, kv, vv]) hs fun b3 w hs => ?_
  have hmm : ∀ {A : List Blk}, ∀ p ∈ R, p ∈ A ++ (Hb ++ R) := fun p hp => by simp [hp]
  refine drawS_r (fun w => ∃ X, Sat G w (X ++ ((b3, row 119 [int n.lv, kv, vv]) :: (Hb ++ R)))) hs fun w hs => ?_
  have hld : ∀ (op : World → K → Prop) (x : Value) (k : K), (∀ X w', Sat G w' (X ++ ((b3, row 119 [int n.lv, kv, vv]) :: (Hb ++ R))) → op w' (fun u w'' => u = x ∧ w'' = w')) → k x w → held (fun w => ∃ X, Sat G w (X ++ ((b3, row 119 [int n.lv, kv, vv]) :: (Hb ++ R)))) w (fun w k => op w k) k := fun op x k hx h => ⟨⟨[], hs⟩, _, fun w' ⟨X, hs'⟩ => hx X w' hs', h⟩
  have hi3 : ∀ {X : List Blk}, (b3, row 119 [int n.lv, kv, vv]) ∈ X ++ ((b3, row 119 [int n.lv, kv, vv]) :: (Hb ++ R)) := List.mem_append_right _ (.head _)
  have hRm : ∀ {X : List Blk}, ∀ p ∈ R, p ∈ X ++ ((b3, row 119 [int n.lv, kv, vv]) :: (Hb ++ R)) := fun p hp => by simp [hp]
  refine add_r (add_r (hld _ _ _ (fun X w' hs' => ld_r hs' hi3 rfl ⟨rfl, rfl⟩) ?_))
  have h1f := h1
  rw [map_flat] at h1f
  refine h1f.idx (i := 0) (fun _ _ => rfl) (by decide) (by simp) fun bk ok hl1 => ?_
  refine hld _ _ _ (fun X w' hs' => (hl1.mono hRm).ld (i := 0) hs' rfl ⟨rfl, rfl⟩) ?_
  refine hld _ _ _ (fun X w' hs' => ld_r hs' hi3 rfl ⟨rfl, rfl⟩) ?_
  have h2f := h2
  rw [map_flat] at h2f
  refine h2f.idx (i := 0) (fun _ _ => rfl) (by decide) (by simp) fun bv ov hl2 => ?_
  refine hld _ _ _ (fun X w' hs' => (hl2.mono hRm).ld (i := 0) hs' rfl ⟨rfl, rfl⟩) ?_
  refine bld_r (zero := [int 0, int 0]) (cs := pr y) rfl ?_
  refine new_r (cs := [int 0, int 0]) hs fun b5 w hs => ⟨⟨[(b5, row 151 [int 0, int 0])], hs⟩, ?_⟩
  refine stN_r (vs := pr y) hs .head rfl (by simp) (by simp [Value.oneCell']) fun w hs => ?_
  have hs : Sat G w ((b5, row 151 (pr y)) :: (b3, row 119 [int n.lv, kv, vv]) :: (Hb ++ R)) := hs
  refine loop_r (fun n' vs w => ∃ x, vs = [] ∧ OnlyN σ n' x z ∧ Sat G w ((b5, row 151 (pr x)) :: (b3, row 119 [int n.lv, kv, vv]) :: (Hb ++ R))) m ⟨y, rfl, hm, hs⟩ ?_
  clear hs
  rintro J n' vs w next ⟨x, rfl, hx, hs⟩ hnext
  have hp : ∃ p, σ.pg x.2 = some p ∧ ((n' = 0 ∧ x = z ∧ (p.n.lv = 0 ∨ 1 < p.n.l.length)) ∨ ∃ m' y', n' = m' + 1 ∧ 0 < p.n.lv ∧ p.n.l = [y'] ∧ OnlyN σ m' y' z) := by
    cases n' with
    | zero => obtain ⟨e, p, h1, h2⟩ := hx; exact ⟨p, h1, .inl ⟨rfl, e, h2⟩⟩
    | succ m' => obtain ⟨y', p, h1, h2, h3, h4⟩ := hx; exact ⟨p, h1, .inr ⟨m', y', rfl, h2, h3, h4⟩⟩
  obtain ⟨p, hp, hcase⟩ := hp
  refine drawS_r (fun w => ∃ X, Sat G w (X ++ ((b5, row 151 (pr x)) :: (b3, row 119 [int n.lv, kv, vv]) :: (Hb ++ R)))) hs fun w hs => ?_
  have hld : ∀ (op : World → K → Prop) (x' : Value) (k : K), (∀ X w', Sat G w' (X ++ ((b5, row 151 (pr x)) :: (b3, row 119 [int n.lv, kv, vv]) :: (Hb ++ R))) → op w' (fun u w'' => u = x' ∧ w'' = w')) → k x' w → held (fun w => ∃ X, Sat G w (X ++ ((b5, row 151 (pr x)) :: (b3, row 119 [int n.lv, kv, vv]) :: (Hb ++ R)))) w (fun w k => op w k) k := fun op x k hx h => ⟨⟨[], hs⟩, _, fun w' ⟨X, hs'⟩ => hx X w' hs', h⟩
  refine nn_r (add_r (add_r (hld _ _ _ (fun X w' hs' => ld_r hs' (List.mem_append_right _ (.tail _ (.tail _ (List.mem_append_right _ hcb)))) rfl ⟨rfl, rfl⟩) ?_)))
  refine hld _ _ _ (fun X w' hs' => ld_r hs' (List.mem_append_right _ (.head _)) rfl ⟨rfl, rfl⟩) ?_
  -- behind the page's copy
  have main : ∀ (b6 : Nat) (k3 u3 : Value) (X : List Blk) (w : World), Rd 1 k3 ((p.n.l.map Prod.fst).map int) X → Rd 1 u3 ((p.n.l.map Prod.snd).map int) X → Sat G w ((b6, row 119 [int p.n.lv, k3, u3]) :: (X ++ ((b5, row 151 (pr x)) :: (b3, row 119 [int n.lv, kv, vv]) :: (Hb ++ R)))) →
      (add w 0 (ptr b6) fun t27 w =>
      ld w t27 fun t28 w =>
      bin w .eql t28 (.int .i64 0) fun t29 w =>
      Br t29 (
        W.ldN w 2 (ptr b5) fun t36 w =>
        bldS w 151 1 2 [.int .i64 0, .int .i64 0] [(0, t36)] fun t37 w =>
        k t37 w
      ) (
        add w 1 (ptr b6) fun t31 w =>
        ld w t31 fun t32 w =>
        len w t32 fun t33 w =>
        bin w .gtr t33 (.int .i64 1) fun t34 w =>
        Br t34 (
          W.ldN w 2 (ptr b5) fun t36_1 w =>
          bldS w 151 1 2 [.int .i64 0, .int .i64 0] [(0, t36_1)] fun t37_1 w =>
          k t37_1 w
        ) (
          drawS w fun S w =>
          add w 1 (ptr b6) fun t38 w =>
          add w 2 (ptr b6) fun t42 w =>
          held S w (fun w k => ld w t38 k) fun t39 w =>
          idx w 1 t39 (.int .i64 0) fun t40 w =>
          held S w (fun w k => ld w t40 k) fun t41 w =>
          held S w (fun w k => ld w t42 k) fun t43 w =>
          idx w 1 t43 (.int .i64 0) fun t44 w =>
          held S w (fun w k => ld w t44 k) fun t45 w =>
          bld w #[(0, 1), (1, 1)] #[.int .i64 0, .int .i64 0] [(0, t41), (1, t45)] fun t46 w =>
          W.st w 2 (ptr b5) t46 fun _ w =>
          next [] w
        )
      )) := by
    intro b6 k3 u3 X w g1 g2 hs
    have hX : ∀ q ∈ X, q ∈ (b6, row 119 [int p.n.lv, k3, u3]) :: (X ++ ((b5, row 151 (pr x)) :: (b3, row 119 [int n.lv, kv, vv]) :: (Hb ++ R))) := fun q hq => by simp [hq]
    have hfin : x = z → ∀ w, Sat G w ((b6, row 119 [int p.n.lv, k3, u3]) :: (X ++ ((b5, row 151 (pr x)) :: (b3, row 119 [int n.lv, kv, vv]) :: (Hb ++ R)))) → (W.ldN w 2 (ptr b5) fun t36 w => bldS w 151 1 2 [.int .i64 0, .int .i64 0] [(0, t36)] fun t37 w => k t37 w) := by
      rintro rfl w hs
      refine ldN_r (vs := pr x) hs (.tail _ (List.mem_append_right _ (.head _))) rfl rfl ?_
      refine bldS_r (cs := pr x) hs (fill_agg rfl rfl) (by decide) fun b9 w hs => ?_
      exact hk [(b9, row 151 (pr x))] _ w (own_of (l := [x]) (sp := []) rfl rfl rfl) ((hs.perm (H' := ((b6, row 119 [int p.n.lv, k3, u3]) :: (b5, row 151 (pr x)) :: (b3, row 119 [int n.lv, kv, vv]) :: X) ++ (Hb ++ ([(b9, row 151 (pr x))] ++ R))) (by refine perm_of_cnt fun a => ?_; simp only [cnt_app, cnt_cons, cnt_nil] at *; omega)).drop)
    refine add_r (ld_r hs (.head _) rfl (bin_eql (Br_eq (fun h => ?_) (fun h => ?_))))
    · rcases hcase with ⟨_, e, _⟩ | ⟨_, _, _, h0, _⟩
      · exact hfin e w hs
      · omega
    · refine add_r (ld_r hs (.head _) rfl ?_)
      refine (g1.mono hX).len p.n.l.length (by simp) (by decide) (bin_gtr (Br_d (fun h1 => ?_) (fun h1 => ?_)))
      · rcases hcase with ⟨_, e, _⟩ | ⟨_, _, _, _, h0, _⟩
        · exact hfin e w hs
        · rw [h0] at h1; simp at h1
      · rcases hcase with ⟨_, _, h0⟩ | ⟨m', y', rfl, h0, hl, ht⟩
        · omega
        rw [hl] at g1 g2
        refine drawS_r (fun w => Sat G w ((b6, row 119 [int p.n.lv, k3, u3]) :: (X ++ ((b5, row 151 (pr x)) :: (b3, row 119 [int n.lv, kv, vv]) :: (Hb ++ R))))) hs fun w hs => ?_
        refine add_r (add_r (held_ld hs (.head _) rfl ?_))
        have g1f := g1
        rw [map_flat] at g1f
        refine (g1f.mono hX).idx (i := 0) (fun _ _ => rfl) (by decide) (by simp) fun bk ok hl1 => ?_
        refine hl1.held1 (i := 0) hs rfl (held_ld hs (.head _) rfl ?_)
        have g2f := g2
        rw [map_flat] at g2f
        refine (g2f.mono hX).idx (i := 0) (fun _ _ => rfl) (by decide) (by simp) fun bk ok hl2 => ?_
        refine hl2.held1 (i := 0) hs rfl ?_
        refine bld_r (zero := [int 0, int 0]) (cs := pr y') rfl ?_
        refine stN_r (vs := pr y') hs (.cons (.app .head)) rfl (by simp) (by simp [Value.oneCell']) fun w hs => ?_
        have hs : Sat G w ((b6, row 119 [int p.n.lv, k3, u3]) :: (X ++ ((b5, row 151 (pr y')) :: (b3, row 119 [int n.lv, kv, vv]) :: (Hb ++ R)))) := hs
        exact hnext m' [] w (by omega) ⟨y', rfl, ht, hs.tail.drop⟩
  refine ⟨?_, ?_⟩
  · refine pages_Get hs h (.cons (.cons .here)) hp fun v X w hn3 hs => ?_
    obtain ⟨k3, u3, rfl, g1, g2⟩ := hn3
    refine tup_r rfl (tup_r rfl ?_)
    refine new_r (cs := [int 0, .slice none 0 0, .slice none 0 0]) hs fun b6 w hs => ⟨⟨(b6, row 119 [int 0, .slice none 0 0, .slice none 0 0]) :: X, hs⟩, ?_⟩
    refine stN_r (vs := [int p.n.lv, k3, u3]) hs .head rfl (by simp) (fun y hy => by
      simp only [List.mem_cons, List.not_mem_nil, or_false] at hy
      rcases hy with rfl | rfl | rfl
      · rfl
      · exact g1.one
      · exact g2.one) fun w hs => ?_
    exact main b6 k3 u3 X w g1 g2 hs
  · refine new_r (cs := [int 0, .slice none 0 0, .slice none 0 0]) hs fun b6 w hs => ⟨⟨[(b6, row 119 [int 0, .slice none 0 0, .slice none 0 0])], hs⟩, ?_⟩
    refine pages_Get hs h (.cons (.cons (.cons .here))) hp fun v X w hn3 hs => ?_
    obtain ⟨k3, u3, rfl, g1, g2⟩ := hn3
    refine tup_r rfl (tup_r rfl ?_)
    refine stN_r (vs := [int p.n.lv, k3, u3]) hs (.app .head) rfl (by simp) (fun y hy => by
      simp only [List.mem_cons, List.not_mem_nil, or_false] at hy
      rcases hy with rfl | rfl | rfl
      · rfl
      · exact g1.one
      · exact g2.one) fun w hs => ?_
    have hs : Sat G w (X ++ ((b6, row 119 [int p.n.lv, k3, u3]) :: (b5, row 151 (pr x)) :: (b3, row 119 [int n.lv, kv, vv]) :: (Hb ++ R))) := hs
    exact main b6 k3 u3 X w g1 g2 (hs.perm (by refine perm_of_cnt fun a => ?_; simp only [cnt_app, cnt_cons, cnt_nil] at *; omega))
end
end Go.Proofs.YtemenmmekddjaaaGreatDoor
end
section
namespace Go.Proofs.YtemenmmekddjaaaGreatDoor
open Go Go.Wx Go.W
variable {ω : Go.W.Origin}
/-- what the function that changes a leaf does; Rl: what it reads. -/
def LeafC [Go.W.Origin] (G : List Blk) (lf : Value) (f : List Pr → List Pr) (pre : List Pr → Prop) (Rl : List Blk) : Prop :=
  ∀ (n : Nd) (v : Value) (w : World) (H : List Blk) (k : K), NdOk n → n.lv = 0 → pre n.l → (f n.l).length ≤ 8 → Sat G w H → (∀ p ∈ Rl, p ∈ H) → NdV v n H → (∀ v' X w', NsV v' (cutN 0 (f n.l)) X → Sat G w' (X ++ H) → k (.tuple #[v', .nilIface]) w') → callV Tryz.prog w lf [v] k
section
variable {G H H' R Hb Hc Hv P Rl : List Blk} {w : World} {k : K} {b bb sb cb : Nat} {σ σ' : Sto} {wv : Value} {f : List Pr → List Pr} {pre : List Pr → Prop} {key : Int} {lf : Value}
theorem cutN_single {lv : Nat} {l : List Pr} (h0 : 0 < lv) : singleB (cutN lv l) = decide (l.length = 1) := by
  unfold cutN
  split
  · rename_i h; subst h; rfl
  · split
    · simp [singleB, h0]
    · rename_i h; simp [singleB]; omega
/-- what is done behind the way down. -/
def downRest (cb : Nat) (top : Value) (b12 : Nat) (i : Value) (k : K) : K := fun t66 w =>
  tup w 0 t66 fun t67 w =>
  tup w 1 t66 fun t68 w =>
  eq w true true .iface t68 .nilIface fun t70 w =>
  Br t70 (
    k (.tuple #[(.slice none 0 0), t68]) w
  ) (
    W.ldN w 3 (ptr b12) fun t73 w =>
    call Tryz.prog w 199 [t73, i, t67] fun t76 w =>
    tup w 0 t76 fun t77 w =>
    tup w 1 t76 fun t78 w =>
    eq w true true .iface t78 .nilIface fun t80 w =>
    Br t80 (
      k (.tuple #[(.slice none 0 0), t78]) w
    ) (
      Br top (
        call Tryz.prog w 200 [t77] fun t85 w =>
        Br t85 (
          idx w 3 t77 (.int .i64 0) fun t89 w =>
          W.ldN w 3 t89 fun t90 w =>
          call Tryz.prog w 201 [ptr cb, t90] fun t91 w =>
          k (.tuple #[t91, .nilIface]) w
        ) (
          call Tryz.prog w 144 [ptr cb, t77] fun t94 w =>
          tup w 0 t94 fun t95 w =>
          tup w 1 t94 fun t96 w =>
          k (.tuple #[t95, t96]) w
        )
      ) (
        call Tryz.prog w 144 [ptr cb, t77] fun t94_1 w =>
        tup w 0 t94_1 fun t95_1 w =>
        tup w 1 t94_1 fun t96_1 w =>
        k (.tuple #[t95_1, t96_1]) w
      )
    )
  )
theorem down_node {c : List Int} {a : Int} {top : Bool} {p : Pg} {x : Pr} (hs : Sat G w H) (h : WldR G b bb sb σ wv P Hb) (hc : ChgR cb b c Hc) (hsel : Sel (Hb ++ Hc) H R) (hp : σ.pg a = some p) (hok : NdOk p.n) (h0 : 0 < p.n.lv) (hx : p.n.l[childIx p.n.l key]? = some x)
    (hrec : ∀ b12 X k3 u3 w', Rd 1 k3 ((p.n.l.map Prod.fst).map int) X → Rd 1 u3 ((p.n.l.map Prod.snd).map int) X → Sat G w' ((b12, row 119 [int p.n.lv, k3, u3]) :: (X ++ (Hb ++ (Hc ++ R)))) → call Tryz.prog w' 162 [ptr cb, int x.2, int key, .bool false, lf] (downRest cb (.bool top) b12 (int (childIx p.n.l key : Int)) k)) :
    call Tryz.prog w 162 [ptr cb, int a, int key, .bool top, lf] k := by
  refine b_btree_change_down_walk ?_
  unfold b_btree_change_down
  have hs := hs.sel hsel
  obtain ⟨vc, Hvc, hvc, rfl⟩ : ∃ vc Hvc, W.Own 3 1 vc (c.map int) Hvc ∧ Hc = (cb, row 166 [ptr b, vc]) :: Hvc := by
    cases hc with
    | mk ho => exact ⟨_, _, ho, rfl⟩
  refine nn_r (add_r (ld_r hs (show (cb, row 166 [ptr b, vc]) ∈ _ by simp) rfl ?_))
  refine pages_Get (R := (((cb, row 166 [ptr b, vc]) :: Hvc) ++ R)) (hs.perm (H' := Hb ++ (((cb, row 166 [ptr b, vc]) :: Hvc) ++ R)) (by rw [List.append_assoc])) h .here hp fun v X w hn hs => ?_
  obtain ⟨k3, u3, rfl, g1, g2⟩ := hn
  refine tup_r rfl (tup_r rfl ?_)
  refine new_r (cs := [int 0, .slice none 0 0, .slice none 0 0]) hs fun b12 w hs => ?_
  refine stN_r (vs := [int p.n.lv, k3, u3]) hs .head rfl (by simp) (fun y hy => by
    simp only [List.mem_cons, List.not_mem_nil, or_false] at hy
    rcases hy with rfl | rfl | rfl
    · rfl
    · exact g1.one
    · exact g2.one) fun w hs => ?_
  have hs : Sat G w ((b12, row 119 [int p.n.lv, k3, u3]) :: (X ++ (Hb ++ (((cb, row 166 [ptr b, vc]) :: Hvc) ++ R)))) := hs
  refine eq_nn (Br_f ?_)
  refine add_r (ld_r hs (.head _) rfl (bin_eql (Br_eq (fun _ => by omega) (fun _ => ?_))))
  refine ldN_r (vs := [int p.n.lv, k3, u3]) hs (.head _) rfl rfl ?_
  have hm : ∀ q ∈ X, q ∈ (b12, row 119 [int p.n.lv, k3, u3]) :: (X ++ (Hb ++ (((cb, row 166 [ptr b, vc]) :: Hvc) ++ R))) := fun q hq => by simp [hq]
  have h7 := hok.2.2.1
  refine nd_Find hs ⟨k3, u3, rfl, g1.mono hm, g2.mono hm⟩ hok.2.2.2.1 (by omega) fun at_ ex w hf hs => ?_
  refine tup_r rfl (tup_r rfl (ext_max ?_))
  rw [hf.child]
  refine add_r (ld_r hs (.head _) rfl ?_)
  obtain ⟨hi, hxe⟩ := List.getElem?_eq_some_iff.1 hx
  refine (g2.mono hm).ld1 hs (i := childIx p.n.l key) (by simpa using hi) ?_
  have e : (p.n.l.map Prod.snd)[childIx p.n.l key]'(by simpa using hi) = x.2 := by rw [List.getElem_map, hxe]
  rw [e]
  exact hrec b12 X k3 u3 w g1 g2 hs
theorem change_down (hT : Tab G) (hlf : LeafC G lf f pre Rl) {c c' : List Int} {a : Int} {top : Bool} {r : Option (List Pr)} (hd : DownR f pre key σ c a top σ' c' r) :
    ∀ {w : World} {H R Hb Hc P : List Blk} {k : K}, Sat G w H → WldR G b bb sb σ wv P Hb → ChgR cb b c Hc → Sel (Hb ++ Hc) H R → (∀ p ∈ Rl, p ∈ R) → c'.length < 50000 →
    (r = none → ∀ X Hb' Hc' w', WldR G b bb sb σ' wv (X ++ P) Hb' → ChgR cb b c' Hc' → Sat G w' (Hb' ++ (Hc' ++ R)) → k (.tuple #[.slice none 0 0, .iface 149 (int 50)]) w') →
    (∀ l, r = some l → ∀ X Hb' Hc' v' Ho w', WldR G b bb sb σ' wv (X ++ P) Hb' → ChgR cb b c' Hc' → W.Own 151 2 v' (prs l) Ho → Sat G w' (Hb' ++ (Hc' ++ (Ho ++ R))) → k (.tuple #[v', .nilIface]) w') →
    call Tryz.prog w 162 [ptr cb, int a, int key, .bool top, lf] k := by
  induction hd with
  | @leaf σ' c c' a top p r hp hok h0 hpre hl8 t =>
    intro w H R Hb Hc P k hs h hc hsel hRl hcl hk0 hk
    refine b_btree_change_down_walk ?_
    unfold b_btree_change_down
    have hs := hs.sel hsel
    obtain ⟨vc, Hvc, hvc, rfl⟩ : ∃ vc Hvc, W.Own 3 1 vc (c.map int) Hvc ∧ Hc = (cb, row 166 [ptr b, vc]) :: Hvc := by
      cases hc with
      | mk ho => exact ⟨_, _, ho, rfl⟩
    refine nn_r (add_r (ld_r hs (show (cb, row 166 [ptr b, vc]) ∈ _ by simp) rfl ?_))
    refine pages_Get (R := (((cb, row 166 [ptr b, vc]) :: Hvc) ++ R)) (hs.perm (H' := Hb ++ (((cb, row 166 [ptr b, vc]) :: Hvc) ++ R)) (by refine perm_of_cnt fun a => ?_; simp only [cnt_app, cnt_cons, cnt_nil] at *; omega)) h .here hp fun v X w hn hs => ?_
    obtain ⟨k3, u3, rfl, g1, g2⟩ := hn
    refine tup_r rfl (tup_r rfl ?_)
    refine new_r (cs := [int 0, .slice none 0 0, .slice none 0 0]) hs fun b12 w hs => ?_
    refine stN_r (vs := [int p.n.lv, k3, u3]) hs .head rfl (by simp) (fun y hy => by
      simp only [List.mem_cons, List.not_mem_nil, or_false] at hy
      rcases hy with rfl | rfl | rfl
      · rfl
      · exact g1.one
      · exact g2.one) fun w hs => ?_
    have hs : Sat G w ((b12, row 119 [int p.n.lv, k3, u3]) :: (X ++ (Hb ++ (((cb, row 166 [ptr b, vc]) :: Hvc) ++ R)))) := hs
    refine eq_nn (Br_f ?_)
    refine add_r (ld_r hs (.head _) rfl (bin_eql (Br_eq (fun _ => ?_) (fun h => by omega))))
    refine ldN_r (vs := [int p.n.lv, k3, u3]) hs (.head _) rfl rfl ?_
    refine hlf p.n _ w _ _ hok h0 hpre hl8 hs (fun q hq => by simp [hRl q hq]) ⟨k3, u3, rfl, g1.mono fun q hq => by simp [hq], g2.mono fun q hq => by simp [hq]⟩ fun v2 X2 w hns hs => ?_
    refine tup_r rfl (tup_r rfl (eq_nn (Br_f ?_)))
    have hcl2 := cutN_len 0 (f p.n.l)
    have hwl := t.len
    refine change_write (R := X2 ++ ((b12, row 119 [int p.n.lv, k3, u3]) :: (X ++ R))) hs hT h (.mk hvc) (H := X2 ++ ((b12, row 119 [int p.n.lv, k3, u3]) :: (X ++ (Hb ++ (((cb, row 166 [ptr b, vc]) :: Hvc) ++ R))))) ?_ (hns.mono fun q hq => List.mem_append_left _ hq) t (by omega) (fun hr X' Hb' Hc' w hW hC hs => ?_) (fun l hr X' Hb' Hc' v' Ho w hW hC ho hs => ?_)
    · exact .app (.cons (.app (by rw [← List.append_assoc]; exact .here)))
    · refine tup_r rfl (tup_r rfl ?_)
      exact hk0 hr X' Hb' Hc' w hW hC ((hs.perm (H' := (X2 ++ ((b12, row 119 [int p.n.lv, k3, u3]) :: X)) ++ (Hb' ++ (Hc' ++ R))) (by refine perm_of_cnt fun a => ?_; simp only [cnt_app, cnt_cons, cnt_nil] at *; omega)).drop)
    · refine tup_r rfl (tup_r rfl ?_)
      exact hk l hr X' Hb' Hc' v' Ho w hW hC ho ((hs.perm (H' := (X2 ++ ((b12, row 119 [int p.n.lv, k3, u3]) :: X)) ++ (Hb' ++ (Hc' ++ (Ho ++ R)))) (by refine perm_of_cnt fun a => ?_; simp only [cnt_app, cnt_cons, cnt_nil] at *; omega)).drop)
  | @fail σ' c c' a top p x hp hok h0 hx t ih =>
    intro w H R Hb Hc P k hs h hc hsel hRl hcl hk0 hk
    refine down_node hs h hc hsel hp hok h0 hx fun b12 X k3 u3 w g1 g2 hs => ?_
    refine ih (R := (b12, row 119 [int p.n.lv, k3, u3]) :: (X ++ R)) hs h hc (.cons (.app (by rw [← List.append_assoc]; exact .here))) (fun q hq => by simp [hRl q hq]) hcl (fun _ X' Hb' Hc' w hW hC hs => ?_) (fun l hr => by cases hr)
    unfold downRest
    refine tup_r rfl (tup_r rfl (eq_ifn (Br_t ?_)))
    exact hk0 rfl X' Hb' Hc' w hW hC ((hs.perm (H' := ((b12, row 119 [int p.n.lv, k3, u3]) :: X) ++ (Hb' ++ (Hc' ++ R))) (by refine perm_of_cnt fun a => ?_; simp only [cnt_app, cnt_cons, cnt_nil] at *; omega)).drop)
  | @only σ1 c c1 a p x y z bl hp hok h0 hx t hb hr h1 t2 ih =>
    intro w H R Hb Hc P k hs h hc hsel hRl hcl hk0 hk
    refine down_node hs h hc hsel hp hok h0 hx fun b12 X k3 u3 w g1 g2 hs => ?_
    refine ih (R := (b12, row 119 [int p.n.lv, k3, u3]) :: (X ++ R)) hs h hc (.cons (.app (by rw [← List.append_assoc]; exact .here))) (fun q hq => by simp [hRl q hq]) hcl (fun hr => by cases hr) (fun l hl X' Hb' Hc' v' Ho w hW hC ho hs => ?_)
    cases hl
    unfold downRest
    refine tup_r rfl (tup_r rfl (eq_nn (Br_f ?_)))
    obtain ⟨hi, hxe⟩ := List.getElem?_eq_some_iff.1 hx
    refine ldN_r (vs := [int p.n.lv, k3, u3]) hs (show (b12, row 119 [int p.n.lv, k3, u3]) ∈ _ by simp) rfl rfl ?_
    refine nd_Change hs ⟨k3, u3, rfl, g1.mono fun q hq => by simp [hq], g2.mono fun q hq => by simp [hq]⟩ hok hi hb ho (fun q hq => by simp [hq]) hr fun v4 X4 w hns hs => ?_
    refine tup_r rfl (tup_r rfl (eq_nn (Br_f (Br_t ?_))))
    refine bt_single hs (hns.mono fun q hq => List.mem_append_left _ hq) ?_
    rw [cutN_single h0, h1]
    refine Br_t ?_
    have hc1 : cutN p.n.lv [y] = [⟨p.n.lv, [y]⟩] := rfl
    rw [h1, hc1] at hns
    obtain ⟨es, e1, hre, hne⟩ := hns
    obtain ⟨e, rfl⟩ : ∃ e, es = [e] := List.length_eq_one_iff.1 (by simpa using (congrArg List.length e1).symm)
    have e1 : e.1 = ⟨p.n.lv, [y]⟩ := by simpa using e1.symm
    have hE := hne e (by simp)
    refine (hre.mono (H' := X4 ++ (Hb' ++ (Hc' ++ (Ho ++ ((b12, row 119 [int p.n.lv, k3, u3]) :: (X ++ R)))))) fun q hq => List.mem_append_left _ hq).ldN hs (i := 0) (fun _ _ => rfl) (by decide) (by simp) ?_
    obtain ⟨vc, Hvc, hvc, rfl⟩ : ∃ vc Hvc, W.Own 3 1 vc (c1.map int) Hvc ∧ Hc' = (cb, row 166 [ptr b, vc]) :: Hvc := by
      cases hC with
      | mk ho => exact ⟨_, _, ho, rfl⟩
    have hv := hE.v
    rw [e1] at hv
    refine bt_only (R := X4 ++ (((cb, row 166 [ptr b, vc]) :: Hvc) ++ (Ho ++ ((b12, row 119 [int p.n.lv, k3, u3]) :: (X ++ R))))) (n := ⟨p.n.lv, [y]⟩) (vc := vc) hs hW (.app .here) (by simp) (hv.mono fun q hq => List.mem_append_left _ hq) rfl t2 fun Ho2 v2 w ho2 hs => ?_
    exact hk [z] rfl X' Hb' _ v2 Ho2 w hW (.mk hvc) ho2 ((hs.perm (H' := (X4 ++ (Ho ++ ((b12, row 119 [int p.n.lv, k3, u3]) :: X))) ++ (Hb' ++ (((cb, row 166 [ptr b, vc]) :: Hvc) ++ (Ho2 ++ R)))) (by refine perm_of_cnt fun a => ?_; simp only [cnt_app, cnt_cons, cnt_nil] at *; omega)).drop)
  | @node σ1 σ' c c1 c' a top p x bl r hp hok h0 hx t hb hr h1 t2 ih =>
    intro w H R Hb Hc P k hs h hc hsel hRl hcl hk0 hk
    have hl2 := t2.len
    refine down_node hs h hc hsel hp hok h0 hx fun b12 X k3 u3 w g1 g2 hs => ?_
    refine ih (R := (b12, row 119 [int p.n.lv, k3, u3]) :: (X ++ R)) hs h hc (.cons (.app (by rw [← List.append_assoc]; exact .here))) (fun q hq => by simp [hRl q hq]) (by omega) (fun hr => by cases hr) (fun l hl X' Hb' Hc' v' Ho w hW hC ho hs => ?_)
    cases hl
    unfold downRest
    refine tup_r rfl (tup_r rfl (eq_nn (Br_f ?_)))
    obtain ⟨hi, hxe⟩ := List.getElem?_eq_some_iff.1 hx
    refine ldN_r (vs := [int p.n.lv, k3, u3]) hs (show (b12, row 119 [int p.n.lv, k3, u3]) ∈ _ by simp) rfl rfl ?_
    refine nd_Change hs ⟨k3, u3, rfl, g1.mono fun q hq => by simp [hq], g2.mono fun q hq => by simp [hq]⟩ hok hi hb ho (fun q hq => by simp [hq]) hr fun v4 X4 w hns hs => ?_
    refine tup_r rfl (tup_r rfl (eq_nn (Br_f ?_)))
    have hcn := cutN_len p.n.lv (swapAt p.n.l (childIx p.n.l key) bl)
    have fin : (call Tryz.prog w 144 [ptr cb, v4] fun t94 w => tup w 0 t94 fun t95 w => tup w 1 t94 fun t96 w => k (.tuple #[t95, t96]) w) := by
      refine change_write (R := X4 ++ (Ho ++ ((b12, row 119 [int p.n.lv, k3, u3]) :: (X ++ R)))) hs hT hW hC (.app (by rw [← List.append_assoc]; exact .here)) (hns.mono fun q hq => List.mem_append_left _ hq) t2 (by omega) (fun hr X2 Hb2 Hc2 w hW hC hs => ?_) (fun l hr X2 Hb2 Hc2 v2 Ho2 w hW hC ho hs => ?_)
      · refine tup_r rfl (tup_r rfl ?_)
        exact hk0 hr (X2 ++ X') Hb2 Hc2 w (by rw [List.append_assoc]; exact hW) hC ((hs.perm (H' := (X4 ++ (Ho ++ ((b12, row 119 [int p.n.lv, k3, u3]) :: X))) ++ (Hb2 ++ (Hc2 ++ R))) (by refine perm_of_cnt fun a => ?_; simp only [cnt_app, cnt_cons, cnt_nil] at *; omega)).drop)
      · refine tup_r rfl (tup_r rfl ?_)
        exact hk l hr (X2 ++ X') Hb2 Hc2 v2 Ho2 w (by rw [List.append_assoc]; exact hW) hC ho ((hs.perm (H' := (X4 ++ (Ho ++ ((b12, row 119 [int p.n.lv, k3, u3]) :: X))) ++ (Hb2 ++ (Hc2 ++ (Ho2 ++ R)))) (by refine perm_of_cnt fun a => ?_; simp only [cnt_app, cnt_cons, cnt_nil] at *; omega)).drop)
    refine Br_r (fun htop => ?_) (fun _ => fin)
    refine bt_single hs (hns.mono fun q hq => List.mem_append_left _ hq) ?_
    rw [cutN_single h0]
    have h1 : (swapAt p.n.l (childIx p.n.l key) bl).length ≠ 1 := by
      rcases h1 with h1 | h1
      · rw [h1] at htop; cases htop
      · exact h1
    rw [decide_eq_false h1]
    exact Br_f fin
end
end Go.Proofs.YtemenmmekddjaaaGreatDoor
end
section
namespace Go.Proofs.YtemenmmekddjaaaGreatDoor
open Go Go.Wx Go.W
variable {ω : Go.W.Origin}
section
variable {G H H' R Hb Hc Hv P Rl : List Blk} {w : World} {k : K} {b bb sb cb : Nat} {σ σ' : Sto} {wv : Value}
theorem WriteR.len2 {c c' : List Int} {ns : List Nd} {r : Option (List Pr)} (h : WriteR σ c ns σ' c' r) : c'.length ≤ c.length + ns.length := by
  induction h with
  | nil => simp
  | full => simp
  | cons _ _ _ ih => simp at ih ⊢; omega
/-- what is done behind the page's level. -/
theorem done_rest (hT : Tab G) {c c' : List Int} {l : List Pr} {root lvl : Int} {r : Option Int} {v : Value} {Ho : List Blk} (hs : Sat G w (Hb ++ (Hc ++ (Ho ++ R)))) (h : WldR G b bb sb σ wv P Hb) (hc : ChgR cb b c Hc) (ho : W.Own 151 2 v (prs l) Ho) (hd : DoneR σ c l root σ' c' r) (hl2 : l.length ≤ 2) (hcl : c.length < 50000) (hrow : l.length = 2 → RowOk l)
    (hlv : ∀ x y p, l = [x, y] → σ.pg x.2 = some p → lvl = (p.n.lv : Int) + 1)
    (hk0 : r = none → ∀ X Hb' Hc' w', WldR G b bb sb σ' wv (X ++ P) Hb' → ChgR cb b c' Hc' → Sat G w' (Hb' ++ (Hc' ++ R)) → k (.tuple #[int 0, .iface 149 (int 50)]) w')
    (hk : ∀ to, r = some to → ∀ X Hb' Hc' w', WldR G b bb sb σ' wv (X ++ P) Hb' → ChgR cb b c' Hc' → Sat G w' (Hb' ++ (Hc' ++ R)) → k (.tuple #[int to, .nilIface]) w') : b_btree_change_donej1 (ptr cb) (int root) v (int lvl) k w := by
  unfold b_btree_change_donej1
  refine loop_r (fun n vs w => ∃ (σi : Sto) (ci : List Int) (li : List Pr) (v' : Value) (X Hb1 Hc1 Ho1 : List Blk), vs = [v'] ∧ n = li.length ∧ W.Own 151 2 v' (prs li) Ho1 ∧ DoneR σi ci li root σ' c' r ∧ li.length ≤ 2 ∧ ci.length < 55000 ∧ (li.length = 2 → ci.length < 50000 ∧ RowOk li) ∧ (∀ x y p, li = [x, y] → σi.pg x.2 = some p → lvl = (p.n.lv : Int) + 1) ∧
      WldR G b bb sb σi wv (X ++ P) Hb1 ∧ ChgR cb b ci Hc1 ∧ Sat G w (Hb1 ++ (Hc1 ++ (Ho1 ++ R)))) l.length ⟨σ, c, l, v, [], Hb, Hc, Ho, rfl, rfl, ho, hd, hl2, by omega, fun e => ⟨hcl, hrow e⟩, hlv, h, hc, hs⟩ ?_
  clear hs h hc ho hd hl2 hcl hrow hlv
  rintro J n vs w next ⟨σi, ci, li, v', X, Hb1, Hc1, Ho1, rfl, rfl, ho, hd, hl2, hcl, hrow, hlv, hW, hC, hs⟩ hnext
  obtain ⟨va, vc, hva⟩ := own_slice ho
  have hslen : ∀ (k : K) (w : World), k (int li.length) w → len w v' k := fun k w hk => by subst hva; exact len_r hk
  refine hslen _ _ ?_
  refine bin_gtr (Br_d (fun h => ?_) (fun h => ?_))
  · have h2 : li.length = 2 := by omega
    obtain ⟨hcl5, hrw⟩ := hrow h2
    match li, h2, ho, hd, hrw, hslen, hlv, hva, hnext with
    | [x, y], h2, ho, hd, hrw, hslen, hlv, hva, hnext =>
    have hcase : ∃ p σ1 c1 rr, σi.pg x.2 = some p ∧ p.n.lv ≤ 20 ∧ WriteR σi ci [⟨p.n.lv + 1, [x, y]⟩] σ1 c1 rr ∧ ((rr = none ∧ r = none ∧ σ1 = σ' ∧ c1 = c') ∨ ∃ z, rr = some [z] ∧ DoneR σ1 c1 [z] root σ' c' r) := by
      generalize hx : [x, y] = l at hd
      cases hd with
      | none => cases hx
      | one => cases hx
      | fail hp hlv t => cases hx; exact ⟨_, _, _, _, hp, hlv, t, .inl ⟨rfl, rfl, rfl, rfl⟩⟩
      | two hp hlv t t2 => cases hx; exact ⟨_, _, _, _, hp, hlv, t, .inr ⟨_, rfl, t2⟩⟩
    obtain ⟨p, σ1, c1, rr, hp, hp20, hwr, hcase⟩ := hcase
    have hlvl := hlv x y p rfl hp
    rw [hlvl]
    have hcast : ((p.n.lv : Int) + 1) = ((p.n.lv + 1 : Nat) : Int) := by omega
    rw [hcast]
    refine bld_r (zero := [int 0, .slice none 0 0, .slice none 0 0]) (cs := [int ((p.n.lv + 1 : Nat) : Int), .slice none 0 0, .slice none 0 0]) rfl ?_
    refine new_r (cs := [int 0, .slice none 0 0, .slice none 0 0]) hs fun b5 w hs => ?_
    refine stN_r (vs := [int ((p.n.lv + 1 : Nat) : Int), .slice none 0 0, .slice none 0 0]) hs .head rfl (by simp) (by simp [Value.oneCell']) fun w hs => ?_
    have hs : Sat G w ((b5, row 119 [int ((p.n.lv + 1 : Nat) : Int), .slice none 0 0, .slice none 0 0]) :: ([] ++ ([] ++ (Hb1 ++ (Hc1 ++ (Ho1 ++ R)))))) := hs
    refine hslen _ _ ?_
    generalize hL : [x, y] = l at *
    have hll : l.length ≤ 2 := by rw [← hL]; simp
    refine loop_r (fun c vs' w => ∃ (i : Nat) (kv' vv' : Value) (H1 H2 : List Blk), i ≤ l.length ∧ vs' = [int i] ∧ c = l.length - i ∧ W.Own 3 1 kv' (((l.take i).map Prod.fst).map int) H1 ∧ W.Own 3 1 vv' (((l.take i).map Prod.snd).map int) H2 ∧
        Sat G w ((b5, row 119 [int ((p.n.lv + 1 : Nat) : Int), kv', vv']) :: (H1 ++ (H2 ++ (Hb1 ++ (Hc1 ++ (Ho1 ++ R))))))) l.length ⟨0, .slice none 0 0, .slice none 0 0, [], [], by omega, rfl, rfl, .nil, .nil, hs⟩ ?_
    clear hs
    rintro J2 c2 vs' w next2 ⟨i, kv', vv', H1, H2, hi, rfl, rfl, ho1, ho2, hs⟩ hnext2
    refine bin_lss (Br_d (fun h => ?_) (fun h => ?_))
    · have hi' : i < l.length := by
        have : (i : Int) < l.length := h
        omega
      have hm : ∀ q ∈ Ho1, q ∈ (b5, row 119 [int ((p.n.lv + 1 : Nat) : Int), kv', vv']) :: (H1 ++ (H2 ++ (Hb1 ++ (Hc1 ++ (Ho1 ++ R))))) := fun q hq => by simp [hq]
      have hr : Rd 2 v' (l.flatMap pr) ((b5, row 119 [int ((p.n.lv + 1 : Nat) : Int), kv', vv']) :: (H1 ++ (H2 ++ (Hb1 ++ (Hc1 ++ (Ho1 ++ R)))))) := ho.rd hm
      refine hr.ldN hs (fun _ _ => rfl) (by decide) hi' ?_
      refine new_r (cs := [int 0, int 0]) hs fun b7 w hs => ?_
      refine stN_r (vs := pr l[i]) hs .head rfl (by simp) (by simp [Value.oneCell']) fun w hs => ?_
      have hs : Sat G w ((b7, row 151 (pr l[i])) :: (b5, row 119 [int ((p.n.lv + 1 : Nat) : Int), kv', vv']) :: (H1 ++ (H2 ++ (Hb1 ++ (Hc1 ++ (Ho1 ++ R)))))) := hs
      refine add_r (ld_r hs (.tail _ (.head _)) rfl (add_r (ld_r hs (.head _) rfl ?_)))
      have et : l.take (i + 1) = l.take i ++ [l[i]] := by rw [List.take_add_one, List.getElem?_eq_getElem hi']; rfl
      refine app1_r hs ho1 (.cons (.cons .here)) rfl (by decide) (by simp; omega) fun kv2 K1 w ho1 hs => ?_
      have hs := hs.perm (H' := (b5, row 119 [int ((p.n.lv + 1 : Nat) : Int), kv', vv']) :: (b7, row 151 (pr l[i])) :: (K1 ++ (H2 ++ (Hb1 ++ (Hc1 ++ (Ho1 ++ R)))))) (by refine perm_of_cnt fun a => ?_; simp only [cnt_app, cnt_cons, cnt_nil] at *; omega)
      refine add_r (st_r hs .head (by simp) ho1.one fun w hs => ?_)
      have hs : Sat G w ((b5, row 119 [int ((p.n.lv + 1 : Nat) : Int), kv2, vv']) :: (b7, row 151 (pr l[i])) :: (K1 ++ (H2 ++ (Hb1 ++ (Hc1 ++ (Ho1 ++ R)))))) := hs
      refine add_r (ld_r hs (.head _) rfl (add_r (ld_r hs (.tail _ (.head _)) rfl ?_)))
      refine app1_r hs ho2 (.cons (.cons (.app .here))) rfl (by decide) (by simp; omega) fun vv2 K2 w ho2 hs => ?_
      have hs := hs.perm (H' := (b5, row 119 [int ((p.n.lv + 1 : Nat) : Int), kv2, vv']) :: (b7, row 151 (pr l[i])) :: (K1 ++ (K2 ++ (Hb1 ++ (Hc1 ++ (Ho1 ++ R)))))) (by refine perm_of_cnt fun a => ?_; simp only [cnt_app, cnt_cons, cnt_nil] at *; omega)
      refine add_r (st_r hs .head (by simp) ho2.one fun w hs => ?_)
      have hs : Sat G w ((b5, row 119 [int ((p.n.lv + 1 : Nat) : Int), kv2, vv2]) :: (b7, row 151 (pr l[i])) :: (K1 ++ (K2 ++ (Hb1 ++ (Hc1 ++ (Ho1 ++ R)))))) := hs
      refine bin_add (by omega) (by omega) ?_
      exact hnext2 (l.length - (i + 1)) _ _ (by omega) ⟨i + 1, kv2, vv2, K1, K2, by omega, rfl, rfl, by rw [et, List.map_append, List.map_append]; exact ho1, by rw [et, List.map_append, List.map_append]; exact ho2, (hs.perm (.swap _ _ _)).tail⟩
    · have hi' : i = l.length := by
        have : ¬ (i : Int) < l.length := h
        omega
      subst hi'
      rw [List.take_length] at ho1 ho2
      refine ldN_r (vs := [int ((p.n.lv + 1 : Nat) : Int), kv', vv']) hs (.head _) rfl rfl ?_
      refine bldS_r (cs := [int ((p.n.lv + 1 : Nat) : Int), kv', vv']) hs (fill_agg rfl rfl) (by decide) fun b9 w hs => ?_
      have hs := hs.perm (H' := Hb1 ++ (Hc1 ++ ((b9, row 119 [int ((p.n.lv + 1 : Nat) : Int), kv', vv']) :: (b5, row 119 [int ((p.n.lv + 1 : Nat) : Int), kv', vv']) :: (H1 ++ (H2 ++ (Ho1 ++ R)))))) (by refine perm_of_cnt fun a => ?_; simp only [cnt_app, cnt_cons, cnt_nil] at *; omega)
      have hns : NsV (.slice (some ⟨b9, 0, none⟩) 1 1) [⟨p.n.lv + 1, l⟩] ((b9, row 119 [int ((p.n.lv + 1 : Nat) : Int), kv', vv']) :: (b5, row 119 [int ((p.n.lv + 1 : Nat) : Int), kv', vv']) :: (H1 ++ (H2 ++ (Ho1 ++ R)))) := by
        refine ⟨[(⟨p.n.lv + 1, l⟩, kv', vv')], rfl, .some rfl rfl ⟨_, _, .of (List.Mem.head _), fun j x hj => by rw [Nat.zero_add]; exact hj⟩, fun e he => ?_⟩
        obtain rfl : e = _ := by simpa using he
        exact ⟨ho1.rd fun q hq => by simp [hq], ho2.rd fun q hq => by simp [hq]⟩
      have hwl := hwr.len
      refine change_write hs hT hW hC (by rw [← List.append_assoc]; exact .here) hns hwr (by simp; omega) (fun hr X2 Hb2 Hc2 w hW2 hC2 hs => ?_) (fun l2 hr X2 Hb2 Hc2 v2 Ho2 w hW2 hC2 ho2' hs => ?_)
      · refine tup_r rfl (tup_r rfl (eq_ifn (Br_t ?_)))
        rcases hcase with ⟨-, h1, rfl, rfl⟩ | ⟨z, h1, _⟩
        · exact hk0 h1 (X2 ++ X) Hb2 Hc2 w (by rw [List.append_assoc]; exact hW2) hC2 ((hs.perm (H' := ((b9, row 119 [int ((p.n.lv + 1 : Nat) : Int), kv', vv']) :: (b5, row 119 [int ((p.n.lv + 1 : Nat) : Int), kv', vv']) :: (H1 ++ (H2 ++ Ho1))) ++ (Hb2 ++ (Hc2 ++ R))) (by refine perm_of_cnt fun a => ?_; simp only [cnt_app, cnt_cons, cnt_nil] at *; omega)).drop)
        · rw [hr] at h1; cases h1
      · refine tup_r rfl (tup_r rfl (eq_nn (Br_f ?_)))
        rcases hcase with ⟨h1, _⟩ | ⟨z, h1, hd2⟩
        · rw [hr] at h1; cases h1
        rw [hr] at h1
        obtain rfl : l2 = [z] := by simpa using h1
        have hc1 := hwr.len2
        simp only [List.length_cons, List.length_nil] at hc1
        exact hnext 1 _ _ (by rw [← hL]; simp) ⟨σ1, c1, [z], v2, X2 ++ X, Hb2, Hc2, Ho2, rfl, rfl, ho2', hd2, by simp, by omega, fun h => by simp at h, fun x y p h => by simp at h, by rw [List.append_assoc]; exact hW2, hC2, (hs.perm (H' := ((b9, row 119 [int ((p.n.lv + 1 : Nat) : Int), kv', vv']) :: (b5, row 119 [int ((p.n.lv + 1 : Nat) : Int), kv', vv']) :: (H1 ++ (H2 ++ Ho1))) ++ (Hb2 ++ (Hc2 ++ (Ho2 ++ R)))) (by refine perm_of_cnt fun a => ?_; simp only [cnt_app, cnt_cons, cnt_nil] at *; omega)).drop⟩
  · have hl1 : li.length ≤ 1 := by omega
    refine hslen _ _ ?_
    obtain ⟨vcv, Hvc, hvc, rfl⟩ : ∃ vc Hvc, W.Own 3 1 vc (ci.map int) Hvc ∧ Hc1 = (cb, row 166 [ptr b, vc]) :: Hvc := by
      cases hC with
      | mk ho => exact ⟨_, _, ho, rfl⟩
    have hic : ∀ {A B : List Blk}, (cb, row 166 [ptr b, vcv]) ∈ A ++ (((cb, row 166 [ptr b, vcv]) :: Hvc) ++ B) := fun {A B} => by simp
    have tail : ∀ (to : Int) (σ2 : Sto) (Hb2 : List Blk) (w : World) (next1 : List Value → World → Prop), root ≠ 0 → DropR σ2 root σ' → r = some to → ci = c' → WldR G b bb sb σ2 wv (X ++ P) Hb2 → Sat G w (Hb2 ++ (((cb, row 166 [ptr b, vcv]) :: Hvc) ++ (Ho1 ++ R))) → b_btree_change_donej2 (ptr cb) (int root) (int to) next1 k w := by
      intro to σ2 Hb2 w next1 hr0 hdr hr hcc hW2 hs
      unfold b_btree_change_donej2
      refine bin_neq (Br_ne (fun _ => ?_) (fun h => absurd h hr0))
      refine nn_r (add_r (ld_r hs hic rfl ?_))
      refine pages_Drop hs hW2 .here hdr fun Hb3 w hW3 hs => ?_
      subst hcc
      exact hk to hr X Hb3 _ w hW3 (.mk hvc) ((hs.perm (H' := Ho1 ++ (Hb3 ++ (((cb, row 166 [ptr b, vcv]) :: Hvc) ++ R))) (by refine perm_of_cnt fun a => ?_; simp only [cnt_app, cnt_cons, cnt_nil] at *; omega)).drop)
    cases hd with
    | none hr0 t =>
      refine bin_eql (Br_eq (fun h => by simp at h) (fun _ => ?_))
      exact tail 0 _ Hb1 w _ hr0 t rfl rfl hW hs
    | @one _ σ1 _ _ x _ hr0 t1 t =>
      refine bin_eql (Br_eq (fun _ => ?_) (fun h => absurd rfl h))
      have hr : Rd 2 v' ([x].flatMap pr) (Hb1 ++ (((cb, row 166 [ptr b, vcv]) :: Hvc) ++ (Ho1 ++ R))) := ho.rd fun q hq => by simp [hq]
      refine hr.idx (i := 0) (fun _ _ => rfl) (by decide) (by simp) fun bx ox hl => ?_
      refine add_r (hl.ld (i := 1) hs rfl ?_)
      refine nn_r (add_r (ld_r hs hic rfl ?_))
      refine pages_Hold hs hW .here t1 fun Hb2 w hW2 hs => ?_
      exact tail x.2 _ Hb2 w _ hr0 t rfl rfl hW2 hs
    | fail => simp at hl1
    | two => simp at hl1
theorem change_done (hT : Tab G) {c c' : List Int} {l : List Pr} {root : Int} {r : Option Int} {v : Value} {Ho : List Blk} (hs : Sat G w H) (h : WldR G b bb sb σ wv P Hb) (hc : ChgR cb b c Hc) (ho : W.Own 151 2 v (prs l) Ho) (hsel : Sel (Hb ++ (Hc ++ Ho)) H R) (hd : DoneR σ c l root σ' c' r) (hl2 : l.length ≤ 2) (hcl : c.length < 50000) (hrow : l.length = 2 → RowOk l)
    (hk0 : r = none → ∀ X Hb' Hc' w', WldR G b bb sb σ' wv (X ++ P) Hb' → ChgR cb b c' Hc' → Sat G w' (Hb' ++ (Hc' ++ R)) → k (.tuple #[int 0, .iface 149 (int 50)]) w')
    (hk : ∀ to, r = some to → ∀ X Hb' Hc' w', WldR G b bb sb σ' wv (X ++ P) Hb' → ChgR cb b c' Hc' → Sat G w' (Hb' ++ (Hc' ++ R)) → k (.tuple #[int to, .nilIface]) w') : call Tryz.prog w 163 [ptr cb, int root, v] k := by
  refine b_btree_change_done_walk ?_
  unfold b_btree_change_done
  have hs := (hs.sel hsel).perm (H' := Hb ++ (Hc ++ (Ho ++ R))) (by simp)
  obtain ⟨va, vc, hva⟩ := own_slice ho
  have hslen : ∀ (k : K) (w : World), k (int l.length) w → len w v k := fun k w hk => by subst hva; exact len_r hk
  refine hslen _ _ ?_
  refine bin_gtr (Br_d (fun h2 => ?_) (fun h2 => ?_))
  · have h2 : l.length = 2 := by omega
    obtain ⟨x, y, hL⟩ : ∃ x y, l = [x, y] := by
      match l, h2 with
      | [x, y], _ => exact ⟨x, y, rfl⟩
    subst hL
    obtain ⟨p, hp, hp20⟩ : ∃ p, σ.pg x.2 = some p ∧ p.n.lv ≤ 20 := by
      generalize hx : [x, y] = l at hd
      cases hd with
      | none => cases hx
      | one => cases hx
      | fail hp hlv t => cases hx; exact ⟨_, hp, hlv⟩
      | two hp hlv t t2 => cases hx; exact ⟨_, hp, hlv⟩
    obtain ⟨vcv, Hvc, hvc, rfl⟩ : ∃ vc Hvc, W.Own 3 1 vc (c.map int) Hvc ∧ Hc = (cb, row 166 [ptr b, vc]) :: Hvc := by
      cases hc with
      | mk ho => exact ⟨_, _, ho, rfl⟩
    have hfin : ∀ (Y : List Blk) (w : World), Sat G w (Y ++ (Hb ++ (((cb, row 166 [ptr b, vcv]) :: Hvc) ++ (Ho ++ R)))) → b_btree_change_donej1 (ptr cb) (int root) v (int ((p.n.lv : Int) + 1)) k w := fun Y w hs =>
      done_rest hT hs.drop h (.mk hvc) ho hd hl2 hcl hrow (fun x' y' p' e hp' => by cases e; rw [hp] at hp'; cases hp'; rfl) hk0 hk
    refine drawS_r (fun w => ∃ X, Sat G w (X ++ (Hb ++ (((cb, row 166 [ptr b, vcv]) :: Hvc) ++ (Ho ++ R))))) hs fun w hs => ?_
    have hld : ∀ (op : World → K → Prop) (x' : Value) (k : K), (∀ X w', Sat G w' (X ++ (Hb ++ (((cb, row 166 [ptr b, vcv]) :: Hvc) ++ (Ho ++ R)))) → op w' (fun u w'' => u = x' ∧ w'' = w')) → k x' w → held (fun w => ∃ X, Sat G w (X ++ (Hb ++ (((cb, row 166 [ptr b, vcv]) :: Hvc) ++ (Ho ++ R))))) w (fun w k => op w k) k := fun op x k hx h => ⟨⟨[], hs⟩, _, fun w' ⟨X, hs'⟩ => hx X w' hs', h⟩
    refine nn_r (add_r ?_)
    have hr : ∀ {A : List Blk}, Rd 2 v ([x, y].flatMap pr) (A ++ (Hb ++ (((cb, row 166 [ptr b, vcv]) :: Hvc) ++ (Ho ++ R)))) := ho.rd fun q hq => by simp [hq]
    refine (ho.rd (H := Ho) fun q hq => hq).idx (l := [x, y]) (f := pr) (i := 0) (fun _ _ => rfl) (by decide) (by simp) fun bx ox hl => ?_
    refine add_r (hld _ _ _ (fun X w' hs' => ld_r hs' (show (cb, row 166 [ptr b, vcv]) ∈ _ by simp) rfl ⟨rfl, rfl⟩) (hld _ _ _ (fun X w' hs' => (hl.mono fun q hq => by simp [hq]).ld (i := 1) hs' rfl ⟨rfl, rfl⟩) ⟨?_, ?_⟩))
    · refine pages_Get hs h .here hp fun v3 X w hn hs => ?_
      obtain ⟨k3, u3, rfl, g1, g2⟩ := hn
      refine tup_r rfl (tup_r rfl ?_)
      refine new_r (cs := [int 0, .slice none 0 0, .slice none 0 0]) hs fun b9 w hs => ⟨⟨(b9, row 119 [int 0, .slice none 0 0, .slice none 0 0]) :: X, hs⟩, ?_⟩
      refine stN_r (vs := [int p.n.lv, k3, u3]) hs .head rfl (by simp) (fun y hy => by
        simp only [List.mem_cons, List.not_mem_nil, or_false] at hy
        rcases hy with rfl | rfl | rfl
        · rfl
        · exact g1.one
        · exact g2.one) fun w hs => ?_
      refine add_r (ld_r hs (.head _) rfl (bin_add (by omega) (by omega) ?_))
      exact hfin ((b9, _) :: X) w hs
    · refine new_r (cs := [int 0, .slice none 0 0, .slice none 0 0]) hs fun b9 w hs => ⟨⟨[(b9, row 119 [int 0, .slice none 0 0, .slice none 0 0])], hs⟩, ?_⟩
      refine pages_Get hs h (.cons .here) hp fun v3 X w hn hs => ?_
      obtain ⟨k3, u3, rfl, g1, g2⟩ := hn
      refine tup_r rfl (tup_r rfl ?_)
      refine stN_r (vs := [int p.n.lv, k3, u3]) hs (.app .head) rfl (by simp) (fun y hy => by
        simp only [List.mem_cons, List.not_mem_nil, or_false] at hy
        rcases hy with rfl | rfl | rfl
        · rfl
        · exact g1.one
        · exact g2.one) fun w hs => ?_
      refine add_r (ld_r hs (List.mem_append_right _ (.head _)) rfl (bin_add (by omega) (by omega) ?_))
      exact hfin (X ++ [(b9, _)]) w (by rw [List.append_assoc]; exact hs)
  · exact done_rest hT hs h hc ho hd hl2 hcl hrow (fun x y p e => by subst e; simp at h2) hk0 hk
end
end Go.Proofs.YtemenmmekddjaaaGreatDoor
end
section
namespace Go.Proofs.YtemenmmekddjaaaGreatDoor
open Go Go.Wx Go.W
variable {ω : Go.W.Origin}
section
variable {G H H' R Hb Hc Hv P Rl : List Blk} {w : World} {k : K} {b bb sb cb : Nat} {σ σ' : Sto} {wv : Value} {f : List Pr → List Pr} {pre : List Pr → Prop} {key : Int} {lf : Value}
theorem DoneR.len {c c' : List Int} {l : List Pr} {root : Int} {r : Option Int} (h : DoneR σ c l root σ' c' r) : c'.length ≤ c.length + l.length := by
  induction h with
  | none => simp
  | one => simp
  | fail _ _ t => have := t.len2; simp at this ⊢; omega
  | two _ _ t _ ih => have := t.len2; simp at this ih ⊢; omega
theorem bt_run {root : Int} {r : Option Int} (hT : Tab G) (hlf : LeafC G lf f pre Rl) (hs : Sat G w H) (h : WldR G b bb sb σ wv P Hb) (hsel : Sel Hb H R) (hRl : ∀ p ∈ Rl, p ∈ R) (hr : RunR f pre key σ root σ' r)
    (hk0 : r = none → ∀ X Hb' w', WldR G b bb sb σ' wv (X ++ P) Hb' → Sat G w' (Hb' ++ R) → k (.tuple #[int 0, .iface 149 (int 50)]) w')
    (hk : ∀ to, r = some to → ∀ X Hb' w', WldR G b bb sb σ' wv (X ++ P) Hb' → Sat G w' (Hb' ++ R) → k (.tuple #[int to, .nilIface]) w') : call Tryz.prog w 104 [ptr b, int root, int key, lf] k := by
  refine b_btree_run_walk ?_
  unfold b_btree_run
  have hs := hs.sel hsel
  refine bld_r (zero := [.pointer none, .slice none 0 0]) (cs := [ptr b, .slice none 0 0]) rfl ?_
  refine boxA_r (cs := [ptr b, .slice none 0 0]) hs fun cb w hs => ?_
  have hC0 : ChgR cb b [] [(cb, row 166 [ptr b, .slice none 0 0])] := .mk (v := .slice none 0 0) (Hv := []) .nil
  have failC : ∀ {c : List Int} {σ1 σ2 : Sto} {X Hb1 Hc1 : List Blk} {w : World} {kk : K}, c.length < 65000 → FailR σ1 c.reverse σ2 → WldR G b bb sb σ1 wv (X ++ P) Hb1 → ChgR cb b c Hc1 → Sat G w (Hb1 ++ (Hc1 ++ R)) → (∀ Hb' w', WldR G b bb sb σ2 wv (X ++ P) Hb' → Sat G w' (Hb' ++ R) → kk (.tuple #[]) w') → call Tryz.prog w 97 [ptr cb] kk := by
    intro c σ1 σ2 X Hb1 Hc1 w kk hl hf hW hC hs hkk
    cases hC with
    | @mk v Hv ho =>
      refine change_fail (R := ((cb, row 166 [ptr b, v]) :: Hv) ++ R) hs hW .here (.head _) (ho.rd fun q hq => by simp [hq]) (by omega) hf fun Hb' w' hW' hs' => ?_
      exact hkk Hb' w' hW' ((hs'.perm (H' := ((cb, row 166 [ptr b, v]) :: Hv) ++ (Hb' ++ R)) (by refine perm_of_cnt fun a => ?_; simp only [cnt_app, cnt_cons, cnt_nil] at *; omega)).drop)
  cases hr with
  | @fail σ1 _ c _ t hcl t2 =>
    refine change_down hT hlf t (hs.perm (H' := (Hb ++ [(cb, row 166 [ptr b, .slice none 0 0])]) ++ R) (by refine perm_of_cnt fun a => ?_; simp only [cnt_app, cnt_cons, cnt_nil] at *; omega)) h hC0 .here hRl (by omega) (fun _ X Hb1 Hc1 w hW hC hs => ?_) (fun l hl => by cases hl)
    · refine tup_r rfl (tup_r rfl (eq_ifn (Br_f ?_)))
      refine failC (by omega) t2 hW hC hs fun Hb2 w hW2 hs => ?_
      refine eq_ifn (Br_t ?_)
      exact hk0 rfl X Hb2 w hW2 hs
  | @go σ1 σ2 _ c c2 _ l _ t hcl hl hrow t1 t2 =>
    refine change_down hT hlf t (hs.perm (H' := (Hb ++ [(cb, row 166 [ptr b, .slice none 0 0])]) ++ R) (by refine perm_of_cnt fun a => ?_; simp only [cnt_app, cnt_cons, cnt_nil] at *; omega)) h hC0 .here hRl (by omega) (fun h => by cases h) (fun l' hl' X Hb1 Hc1 v' Ho w hW hC ho hs => ?_)
    · cases hl'
      refine tup_r rfl (tup_r rfl (eq_nn (Br_t ?_)))
      have hdl := t1.len
      refine change_done (R := R) hT (hs.perm (H' := (Hb1 ++ (Hc1 ++ Ho)) ++ R) (by simp)) hW hC ho .here t1 hl (by omega) hrow (fun hr X2 Hb2 Hc2 w hW2 hC2 hs => ?_) (fun to hr X2 Hb2 Hc2 w hW2 hC2 hs => ?_)
      · refine tup_r rfl (tup_r rfl ?_)
        refine failC (X := X2 ++ X) (by omega) t2 (by rw [List.append_assoc]; exact hW2) hC2 hs fun Hb3 w hW3 hs => ?_
        refine eq_ifn (Br_t ?_)
        exact hk0 hr (X2 ++ X) Hb3 w hW3 hs
      · refine tup_r rfl (tup_r rfl ?_)
        refine failC (X := X2 ++ X) (by omega) t2 (by rw [List.append_assoc]; exact hW2) hC2 hs fun Hb3 w hW3 hs => ?_
        refine eq_nn (Br_f ?_)
        exact hk to hr (X2 ++ X) Hb3 w hW3 hs
theorem Set_leaf {b6 b7 : Nat} {val : Int} (hp : PrOk (key, val)) : LeafC G (.func (.func 105) #[] #[ptr b6, ptr b7]) (setL key val) (fun _ => True) [(b6, row 3 [int key]), (b7, row 3 [int val])] := by
  intro n v w H k hn h0 _ hl8 hs hRl hv hk
  refine callV_r (first := []) (cap := [ptr b6, ptr b7]) (by kernel_rfl) ?_
  refine b_btree_Set_c1_walk ?_
  unfold b_btree_Set_c1
  obtain ⟨kv, vv, rfl, h1, h2⟩ := hv
  refine boxA_r (cs := [int n.lv, kv, vv]) hs fun b3 w hs => ?_
  refine ldN_r (vs := [int n.lv, kv, vv]) hs (.head _) rfl rfl ?_
  refine ld_r hs (.tail _ (hRl _ (.head _))) rfl (ld_r hs (.tail _ (hRl _ (.tail _ (.head _)))) rfl ?_)
  refine nd_Put hs ⟨kv, vv, rfl, h1.mono fun q hq => .tail _ hq, h2.mono fun q hq => .tail _ hq⟩ hn hp fun v' X w hns hs => ?_
  refine tup_r rfl (tup_r rfl ?_)
  rw [h0] at hns
  exact hk v' X w hns ((hs.perm (H' := (b3, row 119 [int n.lv, kv, vv]) :: (X ++ H)) (by refine perm_of_cnt fun a => ?_; simp only [cnt_app, cnt_cons, cnt_nil] at *; omega)).tail)
theorem Delete_leaf {b5 : Nat} : LeafC G (.func (.func 121) #[] #[ptr b5]) (delL key) (fun l => ∃ e ∈ l, e.1 = key) [(b5, row 3 [int key])] := by
  intro n v w H k hn h0 hpre hl8 hs hRl hv hk
  refine callV_r (first := []) (cap := [ptr b5]) (by kernel_rfl) ?_
  refine b_btree_Delete_c1_walk ?_
  unfold b_btree_Delete_c1
  obtain ⟨kv, vv, rfl, h1, h2⟩ := hv
  refine boxA_r (cs := [int n.lv, kv, vv]) hs fun b3 w hs => ?_
  refine ldN_r (vs := [int n.lv, kv, vv]) hs (.head _) rfl rfl ?_
  refine ld_r hs (.tail _ (hRl _ (.head _))) rfl ?_
  refine nd_Drop hs ⟨kv, vv, rfl, h1.mono fun q hq => .tail _ hq, h2.mono fun q hq => .tail _ hq⟩ hn hpre fun v' X w hn' hs => ?_
  obtain ⟨k3, u3, rfl, g1, g2⟩ := hn'
  refine tup_r rfl (tup_r rfl ?_)
  refine stN_r (vs := [int n.lv, k3, u3]) hs (.app .head) rfl (by simp) (fun y hy => by
    simp only [List.mem_cons, List.not_mem_nil, or_false] at hy
    rcases hy with rfl | rfl | rfl
    · rfl
    · exact g1.one
    · exact g2.one) fun w hs => ?_
  have hs : Sat G w (X ++ ((b3, row 119 [int n.lv, k3, u3]) :: H)) := hs
  refine eq_nn (Br_f ?_)
  refine add_r (ld_r hs (List.mem_append_right _ (.head _)) rfl ?_)
  have h7 := hn.2.2.1
  have hdl := delF.len (key := key) n.l hn.2.2.2.1
  refine (g1.mono (H' := X) fun q hq => hq).len (delL key n.l).length (by simp) (by decide) (bin_eql (Br_eq (fun h => ?_) (fun h => ?_)))
  · have hl : delL key n.l = [] := List.length_eq_zero_iff.1 (by omega)
    refine hk _ [] w ⟨[], ?_, .nil rfl rfl, by simp⟩ ((hs.perm (H' := (X ++ [(b3, row 119 [int n.lv, k3, u3])]) ++ H) (by refine perm_of_cnt fun a => ?_; simp only [cnt_app, cnt_cons, cnt_nil] at *; omega)).drop)
    unfold cutN; rw [if_pos hl]; rfl
  · have hl : delL key n.l ≠ [] := fun e => h (by rw [e]; rfl)
    refine ldN_r (vs := [int n.lv, k3, u3]) hs (List.mem_append_right _ (.head _)) rfl rfl ?_
    refine bldS_r (cs := [int n.lv, k3, u3]) hs (fill_agg rfl rfl) (by decide) fun b9 w hs => ?_
    refine hk _ ((b9, row 119 [int n.lv, k3, u3]) :: X) w ⟨[(⟨0, delL key n.l⟩, k3, u3)], ?_, ?_, ?_⟩ ((hs.perm (H' := (b3, row 119 [int n.lv, k3, u3]) :: (((b9, row 119 [int n.lv, k3, u3]) :: X) ++ H)) (by refine perm_of_cnt fun a => ?_; simp only [cnt_app, cnt_cons, cnt_nil] at *; omega)).tail)
    · unfold cutN; rw [if_neg hl, if_pos (by omega)]; rfl
    · exact .some rfl rfl ⟨_, _, .of (List.Mem.head _), fun j x hj => by rw [Nat.zero_add, h0]; exact hj⟩
    · intro e he
      obtain rfl : e = _ := by simpa using he
      exact ⟨g1.mono fun q hq => .tail _ hq, g2.mono fun q hq => .tail _ hq⟩
end
end Go.Proofs.YtemenmmekddjaaaGreatDoor
end
section
namespace Go.Proofs.YtemenmmekddjaaaGreatDoor
open Go Go.Wx Go.W
variable {ω : Go.W.Origin}
/-- the value of a key. -/
def lookL (key : Int) (L : List Pr) : Option Int := (L.find? fun e => decide (e.1 = key)).map Prod.snd
theorem look_none {key : Int} {L : List Pr} (h : ∀ e ∈ L, e.1 ≠ key) : lookL key L = none := by
  unfold lookL
  rw [Option.map_eq_none_iff, List.find?_eq_none]
  intro e he; simpa using h e he
theorem look_mid {key : Int} {A L B : List Pr} (hA : ∀ e ∈ A, e.1 < key) (hB : ∀ e ∈ B, key < e.1) : lookL key (A ++ L ++ B) = lookL key L := by
  unfold lookL
  congr 1
  have h1 : A.find? (fun e => decide (e.1 = key)) = none := List.find?_eq_none.2 fun e he => by have := hA e he; simp; omega
  have h2 : B.find? (fun e => decide (e.1 = key)) = none := List.find?_eq_none.2 fun e he => by have := hB e he; simp; omega
  rw [List.find?_append, List.find?_append, h1, h2]
  simp
section
variable {G H H' R Hb Hc Hv P Rl : List Blk} {w : World} {k : K} {b bb sb cb : Nat} {σ σ' : Sto} {wv : Value} {key : Int}
/-- one page of the way to a key. -/
def findBody (b : Nat) (key : Int) (k : K) (next1 : List Value → World → Prop) (a : Value) (w : World) : Prop :=
    call Tryz.prog w 79 [ptr b, a] fun t17 w =>
    tup w 0 t17 fun t18 w =>
    tup w 1 t17 fun t19 w =>
    new w 119 #[.int .i64 0, .slice none 0 0, .slice none 0 0] fun t9 w =>
    W.st w 3 t9 t18 fun _ w =>
    W.ldN w 3 t9 fun t21 w =>
    call Tryz.prog w 114 [t21, int key] fun t23 w =>
    tup w 0 t23 fun t24 w =>
    tup w 1 t23 fun t25 w =>
    eq w true true .iface t19 .nilIface fun t28 w =>
    Br t28 (
      k (.tuple #[(.int .i64 0), (.bool false)]) w
    ) (
      bin w .lss t24 (.int .i64 0) fun t31 w =>
      Br t31 (
        k (.tuple #[(.int .i64 0), (.bool false)]) w
      ) (
        add w 0 t9 fun t34 w =>
        ld w t34 fun t35 w =>
        bin w .gtr t35 (.int .i64 0) fun t36 w =>
        Br t36 (
          add w 2 t9 fun t37 w =>
          ld w t37 fun t38 w =>
          idx w 1 t38 t24 fun t40 w =>
          ld w t40 fun t41 w =>
          next1 [t41] w
        ) (
          un w .not t25 fun t44 w =>
          Br t44 (
            k (.tuple #[(.int .i64 0), (.bool false)]) w
          ) (
            add w 2 t9 fun t45 w =>
            ld w t45 fun t46 w =>
            idx w 1 t46 t24 fun t48 w =>
            ld w t48 fun t49 w =>
            k (.tuple #[t49, (.bool true)]) w
          )
        )
      )
    )
def foundV (o : Option Int) : Value := match o with
  | some v => .tuple #[int v, .bool true]
  | none => .tuple #[int 0, .bool false]
theorem find_step {n s c : Nat} {a : Int} {L : List Pr} {next1 : List Value → World → Prop} (hs : Sat G w H) (h : WldR G b bb sb σ wv P Hb) (hsel : Sel Hb H R) (hok : ∀ b x, σ.nd b = some x → NdOk x) (ht : T σ.nd n a L s c) (hL : Srt L)
    (hk : ∀ w', Sat G w' H → k (foundV (lookL key L)) w')
    (hn : ∀ m x L' s' c' w', n = m + 1 → T σ.nd m x L' s' c' → Srt L' → lookL key L' = lookL key L → Sat G w' H → next1 [int x] w') : findBody b key k next1 (int a) w := by
  unfold findBody
  obtain ⟨l, hl, _⟩ := ht.at
  obtain ⟨p, hp, hpn⟩ := pg_of_nd hl
  have hpok : NdOk p.n := hok a _ (by rw [hl, hpn])
  refine pages_Get hs h hsel hp fun v X w hnd hs => ?_
  obtain ⟨k3, u3, rfl, g1, g2⟩ := hnd
  refine tup_r rfl (tup_r rfl ?_)
  refine new_r (cs := [int 0, .slice none 0 0, .slice none 0 0]) hs fun b9 w hs => ?_
  refine stN_r (vs := [int p.n.lv, k3, u3]) hs .head rfl (by simp) (fun y hy => by
    simp only [List.mem_cons, List.not_mem_nil, or_false] at hy
    rcases hy with rfl | rfl | rfl
    · rfl
    · exact g1.one
    · exact g2.one) fun w hs => ?_
  have hs : Sat G w ((b9, row 119 [int p.n.lv, k3, u3]) :: (X ++ H)) := hs
  have hm : ∀ q ∈ X, q ∈ (b9, row 119 [int p.n.lv, k3, u3]) :: (X ++ H) := fun q hq => by simp [hq]
  refine ldN_r (vs := [int p.n.lv, k3, u3]) hs (.head _) rfl rfl ?_
  have h7 := hpok.2.2.1
  refine nd_Find hs ⟨k3, u3, rfl, g1.mono hm, g2.mono hm⟩ hpok.2.2.2.1 (by omega) fun at_ ex w hf hs => ?_
  refine tup_r rfl (tup_r rfl (eq_nn (Br_f ?_)))
  rw [hpn] at hf g2 g1 hpok h7
  simp only at hf g2 g1 h7
  have hlv : p.n.lv = n := by rw [hpn]
  have hsl : Srt l := hpok.2.2.2.1
  have hlne : l ≠ [] := fun e => by have := hpok.2.1; rw [e] at this; simp at this
  refine bin_lss (Br_d (fun h0 => ?_) (fun h0 => ?_))
  · -- below all keys
    have hnone : lookL key L = none := by
      cases hf with
      | yes => omega
      | @no i hi hA hB =>
        have hi0 : i = 0 := by omega
        subst hi0
        rw [List.drop_zero] at hB
        apply look_none
        intro e he
        have hhd : hd? L = hd? l := by
          cases n with
          | zero => have := ht.1; rw [hl] at this; simp at this; rw [this]
          | succ n =>
            obtain ⟨l', h1, _, h3⟩ := ht
            rw [hl] at h1; simp at h1; subst h1
            exact h3.hd
        cases l with
        | nil => exact absurd rfl hlne
        | cons x l =>
          obtain ⟨y, L', rfl, hy⟩ := hd_eq (k := x.1) (by rw [hhd]; rfl)
          have := hB x (by simp)
          rcases List.mem_cons.1 he with rfl | he
          · omega
          · have := hL.gt he; omega
    rw [hnone] at hk
    exact hk w hs.tail.drop
  · refine add_r (ld_r hs (.head _) rfl (bin_gtr (Br_d (fun hgt => ?_) (fun hgt => ?_))))
    · cases n with
      | zero => omega
      | succ n =>
        obtain ⟨l', h1, _, h3⟩ := ht
        rw [hl] at h1; simp at h1; subst h1
        have hch := hf.child
        have hat : at_ = (childIx l key : Int) := by rw [← hch, if_neg (by omega)]
        obtain ⟨x, LA, Li, LB, uA, uB, si, ci, hx, tx, hx2, rfl, rfl, tA, tB, hA, hB⟩ := h3.child hL hlne key
        obtain ⟨hi, hxe⟩ := List.getElem?_eq_some_iff.1 hx
        refine add_r (ld_r hs (.head _) rfl ?_)
        rw [hat]
        refine (g2.mono hm).ld1 hs (i := childIx l key) (by simpa using hi) ?_
        have e : (l.map Prod.snd)[childIx l key]'(by simpa using hi) = x.2 := by rw [List.getElem_map, hxe]
        rw [e]
        exact hn n x.2 Li si ci w rfl tx (hL.sub ((List.sublist_append_right _ _).trans (List.sublist_append_left _ _))) (look_mid hA hB).symm hs.tail.drop
    · have hn0 : n = 0 := by omega
      subst hn0
      have hLl : L = l := by have := ht.1; rw [hl] at this; simpa using this.symm
      subst hLl
      cases hf with
      | @yes i hi hA he hB =>
        refine un_not (Br_f ?_)
        refine add_r (ld_r hs (.head _) rfl ?_)
        refine (g2.mono hm).ld1 hs (i := i) (by simpa using hi) ?_
        have e : lookL key L = some L[i].2 := by
          conv => lhs; rw [at_split hi]
          have : L.take i ++ L[i] :: L.drop (i + 1) = L.take i ++ [L[i]] ++ L.drop (i + 1) := by simp
          rw [this, look_mid hA hB]
          simp [lookL, he]
        rw [e] at hk
        have := hk w hs.tail.drop
        simpa [foundV] using this
      | @no i hi hA hB =>
        refine un_not (Br_t ?_)
        have e : lookL key L = none := by
          apply look_none
          intro e he
          rw [← List.take_append_drop i L] at he
          rcases List.mem_append.1 he with he | he
          · have := hA e he; omega
          · have := hB e he; omega
        rw [e] at hk
        exact hk w hs.tail.drop
theorem bt_Find {n s c : Nat} {a : Int} {L : List Pr} (hs : Sat G w H) (h : WldR G b bb sb σ wv P Hb) (hsel : Sel Hb H R) (hok : ∀ b x, σ.nd b = some x → NdOk x) (ht : T σ.nd n a L s c) (hL : Srt L)
    (hk : ∀ w', Sat G w' H → k (foundV (lookL key L)) w') : call Tryz.prog w 62 [ptr b, int a, int key] k := by
  refine b_btree_Find_walk ?_
  unfold b_btree_Find
  refine jump_r (fun n' vs w => ∃ x L' s' c', vs = [int x] ∧ T σ.nd n' x L' s' c' ∧ Srt L' ∧ lookL key L' = lookL key L ∧ Sat G w H) (fun next hnext => ?_) (fun J n' vs w next ⟨x, L', s', c', e1, ht', hL', hl', hs⟩ hnext => ?_)
  · exact find_step hs h hsel hok ht hL hk fun m x L' s' c' w' _ t1 t2 t3 hs => hnext m _ _ ⟨x, L', s', c', rfl, t1, t2, t3, hs⟩
  · subst e1
    rw [← hl'] at hk
    exact find_step hs h hsel hok ht' hL' hk fun m x L2 s2 c2 w' e t1 t2 t3 hs => hnext m _ _ (by omega) ⟨x, L2, s2, c2, rfl, t1, t2, t3.trans hl', hs⟩
theorem bt_Find_none {a : Int} (hs : Sat G w H) (h : WldR G b bb sb σ wv P Hb) (hsel : Sel Hb H R) (ha : σ.pg a = none)
    (hk : ∀ w', Sat G w' H → k (.tuple #[int 0, .bool false]) w') : call Tryz.prog w 62 [ptr b, int a, int key] k := by
  refine b_btree_Find_walk ?_
  unfold b_btree_Find
  refine jump_r (fun n' vs w => False) (fun next hnext => ?_) (fun J n' vs w next h => h.elim)
  show findBody b key k next (int a) w
  unfold findBody
  refine pages_Get_none hs h hsel ha fun w hs => ?_
  refine tup_r rfl (tup_r rfl ?_)
  refine new_r (cs := [int 0, .slice none 0 0, .slice none 0 0]) hs fun b9 w hs => ?_
  refine stN_r (vs := [int 0, .slice none 0 0, .slice none 0 0]) hs .head rfl (by simp) (by simp [Value.oneCell']) fun w hs => ?_
  refine ldN_r (vs := [int 0, .slice none 0 0, .slice none 0 0]) hs (.head _) rfl rfl ?_
  refine nd_Find (n := ⟨0, []⟩) hs ⟨.slice none 0 0, .slice none 0 0, rfl, .nil rfl rfl, .nil rfl rfl⟩ .nil (by simp) fun at_ ex w hf hs => ?_
  refine tup_r rfl (tup_r rfl (eq_ifn (Br_t ?_)))
  exact hk w hs.tail
theorem prOk_dec (e : Pr) : (prOk e = true ∧ PrOk e) ∨ (prOk e = false ∧ ¬ PrOk e) := by
  cases h : prOk e with
  | true => exact .inl ⟨rfl, (prOk_iff e).1 h⟩
  | false => exact .inr ⟨rfl, fun hp => by rw [(prOk_iff e).2 hp] at h; cases h⟩
theorem ndOk_one (key val : Int) : ndOk 0 [key] [val] = prOk (key, val) := by
  unfold ndOk ordP ordAt
  simp [prOk, Bool.and_comm]
/-- what Set leaves: a first page, or a change. -/
inductive SetR (σ : Sto) (root key val : Int) : Sto → Option Int → Prop
  | full (h0 : root = 0) (hc : CanPut σ ⟨0, [(key, val)]⟩) {σ' : Sto} (h : PutR σ ⟨0, [(key, val)]⟩ σ' none) : SetR σ root key val σ' none
  | one (h0 : root = 0) (hc : CanPut σ ⟨0, [(key, val)]⟩) {σ1 σ' : Sto} {a : Int} (h : PutR σ ⟨0, [(key, val)]⟩ σ1 (some a)) (h2 : HoldR σ1 a σ') : SetR σ root key val σ' (some a)
  | run (h0 : root ≠ 0) {σ' : Sto} {r : Option Int} (h : RunR (setL key val) (fun _ => True) key σ root σ' r) : SetR σ root key val σ' r
theorem bt_Set {root val : Int} {r : Option Int} (hT : Tab G) (hs : Sat G w H) (h : WldR G b bb sb σ wv P Hb) (hsel : Sel Hb H R) (hp : PrOk (key, val)) (hr : SetR σ root key val σ' r)
    (hk0 : r = none → ∀ X Hb' w', WldR G b bb sb σ' wv (X ++ P) Hb' → Sat G w' (Hb' ++ R) → k (.tuple #[int 0, .iface 149 (int 50)]) w')
    (hk : ∀ to, r = some to → ∀ X Hb' w', WldR G b bb sb σ' wv (X ++ P) Hb' → Sat G w' (Hb' ++ R) → k (.tuple #[int to, .nilIface]) w') : call Tryz.prog w 36 [ptr b, int root, int key, int val] k := by
  refine b_btree_Set_walk ?_
  unfold b_btree_Set
  have hs := hs.sel hsel
  refine box_r hs rfl fun b6 w hs => box_r hs rfl fun b7 w hs => ?_
  refine ld_r hs (.tail _ (.head _)) rfl ?_
  refine bldS_r (cs := [int key]) hs (fill_one rfl) (by decide) fun b8 w hs => ?_
  refine ld_r hs (.tail _ (.head _)) rfl ?_
  refine bldS_r (cs := [int val]) hs (fill_one rfl) (by decide) fun b9 w hs => ?_
  refine bld_r (zero := [int 0, .slice none 0 0, .slice none 0 0]) (cs := [int 0, .slice (some ⟨b8, 0, none⟩) 1 1, .slice (some ⟨b9, 0, none⟩) 1 1]) (by rfl) ?_
  refine new_r (cs := [int 0, .slice none 0 0, .slice none 0 0]) hs fun b10 w hs => ?_
  refine stN_r (vs := [int 0, .slice (some ⟨b8, 0, none⟩) 1 1, .slice (some ⟨b9, 0, none⟩) 1 1]) hs .head rfl (by simp) (by simp [Value.oneCell']) fun w hs => ?_
  have hs : Sat G w ((b10, row 119 [int 0, .slice (some ⟨b8, 0, none⟩) 1 1, .slice (some ⟨b9, 0, none⟩) 1 1]) :: (b9, row 3 [int val]) :: (b8, row 3 [int key]) :: (b7, row 3 [int val]) :: (b6, row 3 [int key]) :: (Hb ++ R)) := hs
  refine ldN_r (vs := [int 0, .slice (some ⟨b8, 0, none⟩) 1 1, .slice (some ⟨b9, 0, none⟩) 1 1]) hs (.head _) rfl rfl ?_
  have hk1 : ∀ {A : List Blk}, (b8, row 3 [int key]) ∈ A → Rd 1 (.slice (some ⟨b8, 0, none⟩) 1 1) ([key].map int) A := fun hA => .some rfl rfl ⟨_, _, .of (hA), fun j x hj => by rw [Nat.zero_add]; exact hj⟩
  have hv1 : ∀ {A : List Blk}, (b9, row 3 [int val]) ∈ A → Rd 1 (.slice (some ⟨b9, 0, none⟩) 1 1) ([val].map int) A := fun hA => .some rfl rfl ⟨_, _, .of (hA), fun j x hj => by rw [Nat.zero_add]; exact hj⟩
  refine node_Check (ks := [key]) (vs := [val]) hs (hk1 (.tail _ (.tail _ (.head _)))) (hv1 (.tail _ (.head _))) (by simp) (by simp) fun w hs => ?_
  rw [ndOk_one, (prOk_iff _).2 hp, if_pos rfl]
  refine eq_nn (Br_f ?_)
  cases hr with
  | full h0 hc hput =>
    refine bin_eql (Br_eq (fun _ => ?_) (fun h => absurd h0 h))
    refine ldN_r (vs := [int 0, .slice (some ⟨b8, 0, none⟩) 1 1, .slice (some ⟨b9, 0, none⟩) 1 1]) hs (.head _) rfl rfl ?_
    have hs := hs.perm (H' := Hb ++ ((b9, row 3 [int val]) :: (b8, row 3 [int key]) :: (b10, row 119 [int 0, .slice (some ⟨b8, 0, none⟩) 1 1, .slice (some ⟨b9, 0, none⟩) 1 1]) :: (b7, row 3 [int val]) :: (b6, row 3 [int key]) :: R)) (by refine perm_of_cnt fun a => ?_; simp only [cnt_app, cnt_cons, cnt_nil] at *; omega)
    refine pages_Put hs hT h .here ⟨_, _, rfl, hk1 (.tail _ (.head _)), hv1 (.head _)⟩ hc hput (fun _ Hb2 w hW hs => ?_) (fun a ha => by cases ha)
    refine tup_r rfl (tup_r rfl (eq_ifn (Br_t ?_)))
    exact hk0 rfl [] Hb2 w hW ((hs.perm (H' := [(b9, row 3 [int val]), (b8, row 3 [int key]), (b10, row 119 [int 0, .slice (some ⟨b8, 0, none⟩) 1 1, .slice (some ⟨b9, 0, none⟩) 1 1]), (b7, row 3 [int val]), (b6, row 3 [int key])] ++ (Hb2 ++ R)) (by refine perm_of_cnt fun a => ?_; simp only [cnt_app, cnt_cons, cnt_nil] at *; omega)).drop)
  | @one h0 hc σ1 _ a hput hhold =>
    refine bin_eql (Br_eq (fun _ => ?_) (fun h => absurd h0 h))
    refine ldN_r (vs := [int 0, .slice (some ⟨b8, 0, none⟩) 1 1, .slice (some ⟨b9, 0, none⟩) 1 1]) hs (.head _) rfl rfl ?_
    have hs := hs.perm (H' := Hb ++ ((b9, row 3 [int val]) :: (b8, row 3 [int key]) :: (b10, row 119 [int 0, .slice (some ⟨b8, 0, none⟩) 1 1, .slice (some ⟨b9, 0, none⟩) 1 1]) :: (b7, row 3 [int val]) :: (b6, row 3 [int key]) :: R)) (by refine perm_of_cnt fun a => ?_; simp only [cnt_app, cnt_cons, cnt_nil] at *; omega)
    refine pages_Put hs hT h .here ⟨_, _, rfl, hk1 (.tail _ (.head _)), hv1 (.head _)⟩ hc hput (fun e => by cases e) (fun a' ha X Hb2 w hW hs => ?_)
    cases ha
    refine tup_r rfl (tup_r rfl (eq_nn (Br_f ?_)))
    refine pages_Hold hs hW .here hhold fun Hb3 w hW3 hs => ?_
    exact hk _ rfl X Hb3 w hW3 ((hs.perm (H' := [(b9, row 3 [int val]), (b8, row 3 [int key]), (b10, row 119 [int 0, .slice (some ⟨b8, 0, none⟩) 1 1, .slice (some ⟨b9, 0, none⟩) 1 1]), (b7, row 3 [int val]), (b6, row 3 [int key])] ++ (Hb3 ++ R)) (by refine perm_of_cnt fun a => ?_; simp only [cnt_app, cnt_cons, cnt_nil] at *; omega)).drop)
  | run h0 hrun =>
    refine bin_eql (Br_eq (fun h => absurd h h0) (fun _ => ?_))
    refine ld_r hs (.tail _ (.tail _ (.tail _ (.tail _ (.head _))))) rfl ?_
    have hs := hs.perm (H' := Hb ++ ((b9, row 3 [int val]) :: (b8, row 3 [int key]) :: (b10, row 119 [int 0, .slice (some ⟨b8, 0, none⟩) 1 1, .slice (some ⟨b9, 0, none⟩) 1 1]) :: (b7, row 3 [int val]) :: (b6, row 3 [int key]) :: R)) (by refine perm_of_cnt fun a => ?_; simp only [cnt_app, cnt_cons, cnt_nil] at *; omega)
    refine bt_run hT (Set_leaf (b6 := b6) (b7 := b7) hp) hs h .here (fun q hq => by simp at hq; rcases hq with rfl | rfl <;> simp) hrun (fun hr X Hb2 w hW hs => ?_) (fun to hr X Hb2 w hW hs => ?_)
    · refine tup_r rfl (tup_r rfl ?_)
      exact hk0 hr X Hb2 w hW ((hs.perm (H' := [(b9, row 3 [int val]), (b8, row 3 [int key]), (b10, row 119 [int 0, .slice (some ⟨b8, 0, none⟩) 1 1, .slice (some ⟨b9, 0, none⟩) 1 1]), (b7, row 3 [int val]), (b6, row 3 [int key])] ++ (Hb2 ++ R)) (by refine perm_of_cnt fun a => ?_; simp only [cnt_app, cnt_cons, cnt_nil] at *; omega)).drop)
    · refine tup_r rfl (tup_r rfl ?_)
      exact hk to hr X Hb2 w hW ((hs.perm (H' := [(b9, row 3 [int val]), (b8, row 3 [int key]), (b10, row 119 [int 0, .slice (some ⟨b8, 0, none⟩) 1 1, .slice (some ⟨b9, 0, none⟩) 1 1]), (b7, row 3 [int val]), (b6, row 3 [int key])] ++ (Hb2 ++ R)) (by refine perm_of_cnt fun a => ?_; simp only [cnt_app, cnt_cons, cnt_nil] at *; omega)).drop)
theorem bt_Set_bad {root val : Int} (hs : Sat G w H) (hp : ¬ PrOk (key, val)) (hk : ∀ w', Sat G w' H → k (.tuple #[int 0, .iface 149 (int 80)]) w') : call Tryz.prog w 36 [ptr b, int root, int key, int val] k := by
  refine b_btree_Set_walk ?_
  unfold b_btree_Set
  refine box_r hs rfl fun b6 w hs => box_r hs rfl fun b7 w hs => ?_
  refine ld_r hs (.tail _ (.head _)) rfl ?_
  refine bldS_r (cs := [int key]) hs (fill_one rfl) (by decide) fun b8 w hs => ?_
  refine ld_r hs (.tail _ (.head _)) rfl ?_
  refine bldS_r (cs := [int val]) hs (fill_one rfl) (by decide) fun b9 w hs => ?_
  refine bld_r (zero := [int 0, .slice none 0 0, .slice none 0 0]) (cs := [int 0, .slice (some ⟨b8, 0, none⟩) 1 1, .slice (some ⟨b9, 0, none⟩) 1 1]) (by rfl) ?_
  refine new_r (cs := [int 0, .slice none 0 0, .slice none 0 0]) hs fun b10 w hs => ?_
  refine stN_r (vs := [int 0, .slice (some ⟨b8, 0, none⟩) 1 1, .slice (some ⟨b9, 0, none⟩) 1 1]) hs .head rfl (by simp) (by simp [Value.oneCell']) fun w hs => ?_
  have hs : Sat G w ((b10, row 119 [int 0, .slice (some ⟨b8, 0, none⟩) 1 1, .slice (some ⟨b9, 0, none⟩) 1 1]) :: (b9, row 3 [int val]) :: (b8, row 3 [int key]) :: (b7, row 3 [int val]) :: (b6, row 3 [int key]) :: H) := hs
  refine ldN_r (vs := [int 0, .slice (some ⟨b8, 0, none⟩) 1 1, .slice (some ⟨b9, 0, none⟩) 1 1]) hs (.head _) rfl rfl ?_
  refine node_Check (ks := [key]) (vs := [val]) hs (.some rfl rfl ⟨_, _, .of (.tail _ (.tail _ (.head _))), fun j x hj => by rw [Nat.zero_add]; exact hj⟩) (.some rfl rfl ⟨_, _, .of (.tail _ (.head _)), fun j x hj => by rw [Nat.zero_add]; exact hj⟩) (by simp) (by simp) fun w hs => ?_
  have : prOk (key, val) = false := by
    rcases prOk_dec (key, val) with ⟨_, h⟩ | ⟨h, _⟩
    · exact absurd h hp
    · exact h
  rw [ndOk_one, this, if_neg (by simp)]
  exact eq_ifn (Br_t (hk w hs.tail.tail.tail.tail.tail))
theorem bt_Delete {root : Int} {r : Option Int} {n s c : Nat} {L : List Pr} (hT : Tab G) (hs : Sat G w H) (h : WldR G b bb sb σ wv P Hb) (hsel : Sel Hb H R) (hok : ∀ b x, σ.nd b = some x → NdOk x) (ht : T σ.nd n root L s c) (hL : Srt L) {v0 : Int} (hfound : lookL key L = some v0) (hr : RunR (delL key) (fun l => ∃ e ∈ l, e.1 = key) key σ root σ' r)
    (hk0 : r = none → ∀ X Hb' w', WldR G b bb sb σ' wv (X ++ P) Hb' → Sat G w' (Hb' ++ R) → k (.tuple #[int 0, .iface 149 (int 50)]) w')
    (hk : ∀ to, r = some to → ∀ X Hb' w', WldR G b bb sb σ' wv (X ++ P) Hb' → Sat G w' (Hb' ++ R) → k (.tuple #[int to, .nilIface]) w') : call Tryz.prog w 69 [ptr b, int root, int key] k := by
  refine b_btree_Delete_walk ?_
  unfold b_btree_Delete
  have hs := hs.sel hsel
  refine box_r hs rfl fun b5 w hs => ?_
  refine ld_r hs (.head _) rfl ?_
  refine bt_Find hs h (.cons .here) hok ht hL fun w hs => ?_
  rw [hfound]
  refine tup_r rfl (tup_r rfl (un_not (Br_f ?_)))
  refine ld_r hs (.head _) rfl ?_
  refine bt_run hT (Delete_leaf (b5 := b5)) (hs.perm (H' := Hb ++ ((b5, row 3 [int key]) :: R)) (by refine perm_of_cnt fun a => ?_; simp only [cnt_app, cnt_cons, cnt_nil] at *; omega)) h .here (fun q hq => by simp at hq; subst hq; simp) hr (fun hr X Hb2 w hW hs => ?_) (fun to hr X Hb2 w hW hs => ?_)
  · refine tup_r rfl (tup_r rfl ?_)
    exact hk0 hr X Hb2 w hW ((hs.perm (H' := [(b5, row 3 [int key])] ++ (Hb2 ++ R)) (by refine perm_of_cnt fun a => ?_; simp only [cnt_app, cnt_cons, cnt_nil] at *; omega)).drop)
  · refine tup_r rfl (tup_r rfl ?_)
    exact hk to hr X Hb2 w hW ((hs.perm (H' := [(b5, row 3 [int key])] ++ (Hb2 ++ R)) (by refine perm_of_cnt fun a => ?_; simp only [cnt_app, cnt_cons, cnt_nil] at *; omega)).drop)
theorem bt_Delete_none {root : Int} (hs : Sat G w H) (hf : ∀ (k : K) (w : World) (H : List Blk), Sat G w H → (∀ q ∈ Hb, q ∈ H) → (∀ w', Sat G w' H → k (.tuple #[int 0, .bool false]) w') → call Tryz.prog w 62 [ptr b, int root, int key] k) (hm : ∀ q ∈ Hb, q ∈ H)
    (hk : ∀ w', Sat G w' H → k (.tuple #[int 0, .iface 149 (int 81)]) w') : call Tryz.prog w 69 [ptr b, int root, int key] k := by
  refine b_btree_Delete_walk ?_
  unfold b_btree_Delete
  refine box_r hs rfl fun b5 w hs => ?_
  refine ld_r hs (.head _) rfl ?_
  refine hf _ w _ hs (fun q hq => .tail _ (hm q hq)) fun w hs => ?_
  refine tup_r rfl (tup_r rfl (un_not (Br_t ?_)))
  exact hk w hs.tail
end
end Go.Proofs.YtemenmmekddjaaaGreatDoor
end
section
namespace Go.Proofs.YtemenmmekddjaaaGreatDoor
open Go Go.Wx Go.W
variable {ω : Go.W.Origin}
section
variable {G H H' R Hb Hc Hv P Rl : List Blk} {w : World} {k : K} {b bb sb bo bl : Nat} {σ σ' : Sto} {wv : Value}
theorem items_yield {v : Value} {xs : List Pr} {e : Pr} {Ho : List Blk} (hs : Sat G w H) (ho : W.Own 151 2 v (prs xs) Ho) (hsel : Sel ((bo, row 135 [v]) :: (bl, row 3 [int (-1)]) :: Ho) H R) (hl : xs.length < 100000)
    (hk : ∀ v' Ho' w', W.Own 151 2 v' (prs (xs ++ [e])) Ho' → Sat G w' ((bo, row 135 [v']) :: (bl, row 3 [int (-1)]) :: (Ho' ++ R)) → k (.bool true) w') : callV Tryz.prog w (.func (.func 127) #[] #[ptr bo, ptr bl]) [.agg (pr e).toArray] k := by
  refine callV_r (first := []) (cap := [ptr bo, ptr bl]) (by kernel_rfl) ?_
  refine b_btree_Items_c1_walk ?_
  unfold b_btree_Items_c1
  have hs := hs.sel hsel
  refine boxA_r (cs := pr e) hs fun b3 w hs => ?_
  refine ld_r hs (.tail _ (.head _)) rfl ?_
  refine ldN_r (vs := pr e) hs (.head _) rfl rfl ?_
  refine appA_r (cs := pr e) (R := (b3, row 151 (pr e)) :: (bo, row 135 [v]) :: (bl, row 3 [int (-1)]) :: R) (hs.perm (H' := Ho ++ ((b3, row 151 (pr e)) :: (bo, row 135 [v]) :: (bl, row 3 [int (-1)]) :: R)) (by refine perm_of_cnt fun a => ?_; simp only [cnt_app, cnt_cons, cnt_nil] at *; omega)) ho .here rfl rfl (by simp [Value.oneCell']) (by decide) (by decide) (by decide) (by rw [prs_len]; omega) fun v2 Ho2 w ho2 hs => ?_
  have e2 : prs xs ++ pr e = prs (xs ++ [e]) := by rw [prs_app]; rfl
  rw [e2] at ho2
  have hs := hs.perm (H' := (bo, row 135 [v]) :: (bl, row 3 [int (-1)]) :: (b3, row 151 (pr e)) :: (Ho2 ++ R)) (by refine perm_of_cnt fun a => ?_; simp only [cnt_app, cnt_cons, cnt_nil] at *; omega)
  refine st_r hs .head (by simp) ho2.one fun w hs => ?_
  have hs : Sat G w ((bo, row 135 [v2]) :: (bl, row 3 [int (-1)]) :: (b3, row 151 (pr e)) :: (Ho2 ++ R)) := hs
  refine ld_r hs (.head _) rfl ?_
  obtain ⟨a2, c2, hv2⟩ := own_slice ho2
  subst hv2
  refine len_r (ld_r hs (.tail _ (.head _)) rfl (bin_neq ?_))
  have : (((xs ++ [e]).length : Int) != -1) = true := by
    have : (0 : Int) ≤ ((xs ++ [e]).length : Int) := by omega
    simp; omega
  rw [this]
  exact hk _ Ho2 w ho2 ((hs.perm (H' := (b3, row 151 (pr e)) :: ((bo, row 135 [.slice a2 (xs ++ [e]).length c2]) :: (bl, row 3 [int (-1)]) :: (Ho2 ++ R))) (by refine perm_of_cnt fun a => ?_; simp only [cnt_app, cnt_cons, cnt_nil] at *; omega)).tail)
theorem bt_walk (hok : ∀ b x, σ.nd b = some x → NdOk x) (h : WldR G b bb sb σ wv P Hb) : ∀ (n : Nat) {a : Int} {L : List Pr} {s c : Nat} {xs : List Pr} {v : Value} {Ho R : List Blk} {w : World} {k : K}, T σ.nd n a L s c → (∀ e ∈ L, 0 ≤ e.1) → xs.length + L.length < 100000 →
    W.Own 151 2 v (prs xs) Ho → Sat G w (Hb ++ ((bo, row 135 [v]) :: (bl, row 3 [int (-1)]) :: (Ho ++ R))) →
    (∀ v' Ho' w', W.Own 151 2 v' (prs (xs ++ L)) Ho' → Sat G w' (Hb ++ ((bo, row 135 [v']) :: (bl, row 3 [int (-1)]) :: (Ho' ++ R))) → k (.bool true) w') →
    call Tryz.prog w 126 [ptr b, int a, int 0, .func (.func 127) #[] #[ptr bo, ptr bl]] k := by
  intro n
  induction n with
  | zero =>
    intro a L s c xs v Ho R w k ht hpos hlen ho hs hk
    refine b_btree_walk_walk ?_
    unfold b_btree_walk
    obtain ⟨hl, -, -⟩ := ht
    obtain ⟨p, hp, hpn⟩ := pg_of_nd hl
    have hpok : NdOk p.n := hok a _ (by rw [hl, hpn])
    refine pages_Get hs h .here hp fun v0 X w hnd hs => ?_
    obtain ⟨k3, u3, rfl, g1, g2⟩ := hnd
    rw [hpn] at g1 g2 hpok
    simp only at g1 g2
    have h7 := hpok.2.2.1
    simp only at h7
    refine tup_r rfl (tup_r rfl ?_)
    refine new_r (cs := [int 0, .slice none 0 0, .slice none 0 0]) hs fun b9 w hs => ?_
    refine stN_r (vs := [int p.n.lv, k3, u3]) hs .head rfl (by simp) (fun y hy => by
      simp only [List.mem_cons, List.not_mem_nil, or_false] at hy
      rcases hy with rfl | rfl | rfl
      · rfl
      · exact g1.one
      · exact g2.one) fun w hs => ?_
    have hlv : p.n.lv = 0 := by rw [hpn]
    rw [hlv] at hs
    have hs : Sat G w ((b9, row 119 [int 0, k3, u3]) :: (X ++ (Hb ++ ((bo, row 135 [v]) :: (bl, row 3 [int (-1)]) :: (Ho ++ R))))) := hs
    refine eq_nn (Br_f ?_)
    refine add_r (ld_r hs (.head _) rfl ?_)
    refine (g1.mono (H' := X) fun q hq => hq).len L.length (by simp) (by decide) ?_
    refine loop_r (fun cc vs w => ∃ (i : Nat) (v' : Value) (Ho' : List Blk), i ≤ L.length ∧ vs = [int i] ∧ cc = L.length - i ∧ W.Own 151 2 v' (prs (xs ++ L.take i)) Ho' ∧ Sat G w ((b9, row 119 [int 0, k3, u3]) :: (X ++ (Hb ++ ((bo, row 135 [v']) :: (bl, row 3 [int (-1)]) :: (Ho' ++ R)))))) L.length ⟨0, v, Ho, by omega, rfl, rfl, by simpa using ho, hs⟩ ?_
    clear hs ho
    rintro J cc vs w next ⟨i, v', Ho', hi, rfl, rfl, ho, hs⟩ hnext
    refine bin_lss (Br_d (fun hc => ?_) (fun hc => ?_))
    · have hi' : i < L.length := by
        have : (i : Int) < L.length := hc
        omega
      have hm : ∀ q ∈ X, q ∈ (b9, row 119 [int 0, k3, u3]) :: (X ++ (Hb ++ ((bo, row 135 [v']) :: (bl, row 3 [int (-1)]) :: (Ho' ++ R)))) := fun q hq => by simp [hq]
      refine (g1.mono hm).ld1 hs (i := i) (by simpa using hi') ?_
      refine add_r (ld_r hs (.head _) rfl (bin_gtr (Br_d (fun h0 => by omega) (fun _ => ?_))))
      have h0 := hpos _ (List.getElem_mem hi')
      rw [List.getElem_map]
      refine bin_geq (Br_d (fun _ => ?_) (fun h1 => by omega))
      refine add_r (ld_r hs (.head _) rfl ?_)
      refine (g2.mono hm).ld1 hs (i := i) (by simpa using hi') ?_
      rw [List.getElem_map]
      refine bld_r (zero := [int 0, int 0]) (cs := pr L[i]) rfl ?_
      refine items_yield (bo := bo) (bl := bl) (e := L[i]) (R := (b9, row 119 [int 0, k3, u3]) :: (X ++ (Hb ++ R))) (hs.perm (H' := ((bo, row 135 [v']) :: (bl, row 3 [int (-1)]) :: Ho') ++ ((b9, row 119 [int 0, k3, u3]) :: (X ++ (Hb ++ R)))) (by refine perm_of_cnt fun a => ?_; simp only [cnt_app, cnt_cons, cnt_nil] at *; omega)) ho .here (by simp; omega) fun v2 Ho2 w ho2 hs => ?_
      refine un_not (Br_f (bin_add (by omega) (by omega) ?_))
      refine hnext (L.length - (i + 1)) _ _ (by omega) ⟨i + 1, v2, Ho2, by omega, rfl, rfl, ?_, hs.perm (by refine perm_of_cnt fun a => ?_; simp only [cnt_app, cnt_cons, cnt_nil] at *; omega)⟩
      have : xs ++ L.take (i + 1) = xs ++ L.take i ++ [L[i]] := by rw [List.take_add_one, List.getElem?_eq_getElem hi']; simp
      rw [this]; exact ho2
    · have hi' : i = L.length := by
        have : ¬ (i : Int) < L.length := hc
        omega
      subst hi'
      rw [List.take_length] at ho
      exact hk v' Ho' w ho hs.tail.drop
  | succ n ih =>
    intro a L s c xs v Ho R w k ht hpos hlen ho hs hk
    refine b_btree_walk_walk ?_
    unfold b_btree_walk
    obtain ⟨l, hl, -, ht⟩ := ht
    obtain ⟨p, hp, hpn⟩ := pg_of_nd hl
    have hpok : NdOk p.n := hok a _ (by rw [hl, hpn])
    refine pages_Get hs h .here hp fun v0 X w hnd hs => ?_
    obtain ⟨k3, u3, rfl, g1, g2⟩ := hnd
    rw [hpn] at g1 g2 hpok
    simp only at g1 g2
    have h7 := hpok.2.2.1
    have hpr := hpok.2.2.2.2
    have hsl := hpok.2.2.2.1
    simp only at h7 hpr hsl
    refine tup_r rfl (tup_r rfl ?_)
    refine new_r (cs := [int 0, .slice none 0 0, .slice none 0 0]) hs fun b9 w hs => ?_
    refine stN_r (vs := [int p.n.lv, k3, u3]) hs .head rfl (by simp) (fun y hy => by
      simp only [List.mem_cons, List.not_mem_nil, or_false] at hy
      rcases hy with rfl | rfl | rfl
      · rfl
      · exact g1.one
      · exact g2.one) fun w hs => ?_
    have hlv : p.n.lv = n + 1 := by rw [hpn]
    have hs : Sat G w ((b9, row 119 [int p.n.lv, k3, u3]) :: (X ++ (Hb ++ ((bo, row 135 [v]) :: (bl, row 3 [int (-1)]) :: (Ho ++ R))))) := hs
    refine eq_nn (Br_f ?_)
    refine add_r (ld_r hs (.head _) rfl ?_)
    refine (g1.mono (H' := X) fun q hq => hq).len l.length (by simp) (by decide) ?_
    refine loop_r (fun cc vs w => ∃ (i : Nat) (v' : Value) (Ho' : List Blk) (Ld Lr : List Pr) (u2 : Nat), i ≤ l.length ∧ vs = [int i] ∧ cc = l.length - i ∧ L = Ld ++ Lr ∧ Ts (T σ.nd n) n (l.drop i) Lr u2 ∧ W.Own 151 2 v' (prs (xs ++ Ld)) Ho' ∧ Sat G w ((b9, row 119 [int p.n.lv, k3, u3]) :: (X ++ (Hb ++ ((bo, row 135 [v']) :: (bl, row 3 [int (-1)]) :: (Ho' ++ R)))))) l.length ⟨0, v, Ho, [], L, c, by omega, rfl, rfl, rfl, ht, by simpa using ho, hs⟩ ?_
    clear hs ho
    rintro J cc vs w next ⟨i, v', Ho', Ld, Lr, u2, hi, rfl, rfl, hL, hts, ho, hs⟩ hnext
    refine bin_lss (Br_d (fun hc => ?_) (fun hc => ?_))
    · have hi' : i < l.length := by
        have : (i : Int) < l.length := hc
        omega
      have hm : ∀ q ∈ X, q ∈ (b9, row 119 [int p.n.lv, k3, u3]) :: (X ++ (Hb ++ ((bo, row 135 [v']) :: (bl, row 3 [int (-1)]) :: (Ho' ++ R)))) := fun q hq => by simp [hq]
      refine (g1.mono hm).ld1 hs (i := i) (by simpa using hi') ?_
      refine add_r (ld_r hs (.head _) rfl (bin_gtr (Br_d (fun _ => ?_) (fun h0 => by omega))))
      have hdrop : l.drop i = (l[i].1, l[i].2) :: l.drop (i + 1) := by rw [List.getElem_cons_drop]
      rw [hdrop] at hts
      obtain ⟨L1, L2, s1, c1, u', t1, t2, t3, rfl, rfl⟩ := hts.uncons
      have go : (add w 2 (ptr b9) fun t50 w =>
            ld w t50 fun t51 w =>
            idx w 1 t51 (int (i : Int)) fun t53 w =>
            ld w t53 fun t54 w =>
            call Tryz.prog w 126 [ptr b, t54, int 0, .func (.func 127) #[] #[ptr bo, ptr bl]] fun t57 w =>
            un w .not t57 fun t58 w =>
            Br t58 (
              k (.bool false) w
            ) (
              bin w .add (int (i : Int)) (.int .i64 1) fun t73_1 w =>
              next [t73_1] w
            )) := by
        refine add_r (ld_r hs (.head _) rfl ?_)
        refine (g2.mono hm).ld1 hs (i := i) (by simpa using hi') ?_
        rw [List.getElem_map]
        refine ih (R := (b9, row 119 [int p.n.lv, k3, u3]) :: (X ++ R)) t1 (fun e he => hpos e (by rw [hL]; simp [he])) (by rw [hL] at hlen; simp at hlen ⊢; omega) ho (hs.perm (by refine perm_of_cnt fun a => ?_; simp only [cnt_app, cnt_cons, cnt_nil] at *; omega)) fun v2 Ho2 w ho2 hs => ?_
        refine un_not (Br_f (bin_add (by omega) (by omega) ?_))
        refine hnext (l.length - (i + 1)) _ _ (by omega) ⟨i + 1, v2, Ho2, Ld ++ L1, L2, u', by omega, rfl, rfl, by rw [hL, List.append_assoc], t3, by rw [← List.append_assoc]; exact ho2, hs.perm (by refine perm_of_cnt fun a => ?_; simp only [cnt_app, cnt_cons, cnt_nil] at *; omega)⟩
      refine bin_add (by omega) (by omega) (add_r (ld_r hs (.head _) rfl ?_))
      refine (g1.mono hm).len l.length (by simp) (by decide) ?_
      refine bin_lss (Br_d (fun h1 => ?_) (fun _ => go))
      refine add_r (ld_r hs (.head _) rfl (bin_add (by omega) (by omega) ?_))
      have hi1 : i + 1 < l.length := by
        have : (i : Int) + 1 < l.length := h1
        omega
      rw [show (i : Int) + 1 = ((i + 1 : Nat) : Int) by omega]
      refine (g1.mono hm).ld1 hs (i := i + 1) (by simpa using hi1) ?_
      rw [List.getElem_map]
      have hgt := List.pairwise_iff_getElem.1 hsl i (i + 1) hi' hi1 (by omega)
      have h0 := (hpr _ (List.getElem_mem hi')).1
      exact bin_leq (Br_d (fun h2 => by omega) (fun _ => go))
    · have hi' : i = l.length := by
        have : ¬ (i : Int) < l.length := hc
        omega
      subst hi'
      rw [List.drop_length] at hts
      cases hts
      rw [List.append_nil] at hL
      subst hL
      exact hk v' Ho' w ho hs.tail.drop
/-- the items of a root: a tree, or none. -/
def RootT (M : Int → Option Nd) (a : Int) (L : List Pr) : Prop := (M a = none ∧ L = []) ∨ ∃ n s c, T M n a L s c
theorem bt_Items {a : Int} {L : List Pr} (hs : Sat G w H) (h : WldR G b bb sb σ wv P Hb) (hsel : Sel Hb H R) (hok : ∀ b x, σ.nd b = some x → NdOk x) (ht : RootT σ.nd a L) (hpos : ∀ e ∈ L, 0 ≤ e.1) (hlen : L.length < 100000)
    (hk : ∀ v Ho w', W.Own 151 2 v (prs L) Ho → Sat G w' (Ho ++ H) → k v w') : call Tryz.prog w 75 [ptr b, int a, int 0, int (-1)] k := by
  refine b_btree_Items_walk ?_
  unfold b_btree_Items
  have hpm := hsel.perm
  have hs := hs.sel hsel
  refine box_r hs rfl fun bl w hs => ?_
  refine new_r (cs := [.slice none 0 0]) hs fun bo w hs => ?_
  refine ld_r hs (.tail _ (.head _)) rfl (bin_eql (Br_eq (fun h => by cases h) (fun _ => ?_)))
  rcases ht with ⟨hn, rfl⟩ | ⟨n, s, c, ht⟩
  · refine b_btree_walk_walk ?_
    unfold b_btree_walk
    refine pages_Get_none hs h (.cons (.cons .here)) (nd_none.1 hn) fun w hs => ?_
    refine tup_r rfl (tup_r rfl ?_)
    refine new_r (cs := [int 0, .slice none 0 0, .slice none 0 0]) hs fun b9 w hs => ?_
    refine stN_r (vs := [int 0, .slice none 0 0, .slice none 0 0]) hs .head rfl (by simp) (by simp [Value.oneCell']) fun w hs => ?_
    refine eq_ifn (Br_t ?_)
    refine ld_r hs (.tail _ (.head _)) rfl ?_
    exact hk _ [] w .nil ((hs.tail.tail.tail).perm hpm.symm)
  · refine bt_walk (bo := bo) (bl := bl) (xs := []) (v := .slice none 0 0) (Ho := []) (R := R) hok h n ht hpos (by simpa using hlen) .nil (hs.perm (by refine perm_of_cnt fun a => ?_; simp only [cnt_app, cnt_cons, cnt_nil] at *; omega)) fun v' Ho' w ho hs => ?_
    refine ld_r hs (List.mem_append_right _ (.head _)) rfl ?_
    exact hk v' Ho' w ho ((hs.perm (H' := [(bo, row 135 [v']), (bl, row 3 [int (-1)])] ++ (Ho' ++ H)) (by refine perm_of_cnt fun a => ?_; have q0 := cnt_perm hpm a; simp only [cnt_app, cnt_cons, cnt_nil] at *; omega)).drop)
theorem bt_Count {a : Int} {L : List Pr} (hs : Sat G w H) (h : WldR G b bb sb σ wv P Hb) (hsel : Sel Hb H R) (hok : ∀ b x, σ.nd b = some x → NdOk x) (ht : RootT σ.nd a L) (hpos : ∀ e ∈ L, 0 ≤ e.1) (hlen : L.length < 100000)
    (hk : ∀ w', Sat G w' H → k (int L.length) w') : call Tryz.prog w 77 [ptr b, int a] k := by
  refine b_btree_Count_walk ?_
  unfold b_btree_Count
  refine bt_Items hs h hsel hok ht hpos hlen fun v Ho w ho hs => ?_
  obtain ⟨a2, c2, rfl⟩ := own_slice ho
  exact len_r (hk w hs.drop)
end
end Go.Proofs.YtemenmmekddjaaaGreatDoor
end
