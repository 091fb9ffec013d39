/- What one call of the law's does. No condition. What one call of the law's does: the four kinds. No condition. -/
import Derived.Test.YtemenmmekddjaaaGreatDoorJ35
set_option linter.all false
set_option linter.unusedVariables false
set_option linter.unusedSimpArgs false
set_option linter.unnecessarySimpa false
set_option linter.unusedSectionVars false
set_option linter.constructorNameAsVariable false
section
namespace Go.Proofs.YtemenmmekddjaaaGreatDoor
open Go Go.Wx Go.W
variable {ω : Go.W.Origin}
theorem tc_sr {sb b i : Nat} {r : Nat → Int} {lv : Nat → Value} {x : Int} (hi : i < 4) : (tcells sb b r lv).set (0 + 2 + (i : Int).toNat * 1) (int x) = tcells sb b (upd r i x) lv :=
  cases4 (P := fun i => (tcells sb b r lv).set (0 + 2 + (i : Int).toNat * 1) (int x) = tcells sb b (upd r i x) lv) hi rfl rfl rfl rfl
theorem tc_sl {sb b i : Nat} {r : Nat → Int} {lv : Nat → Value} {x : Value} (hi : i < 4) : (tcells sb b r lv).set (0 + 6 + (i : Int).toNat * 1) x = tcells sb b r (upd lv i x) :=
  cases4 (P := fun i => (tcells sb b r lv).set (0 + 6 + (i : Int).toNat * 1) x = tcells sb b r (upd lv i x)) hi rfl rfl rfl rfl
section
variable {G H A R Hb Hc Hv P Rb HL : List Blk} {w : World} {k : K} {bt b bb sb : Nat} {σ σ' : Sto} {wv : Value} {Q : RoomI} {D : List Int} {r : Nat → Int} {L : Nat → List Pr} {lv : Nat → Value} {N : Nat}
/-- four trees in memory. -/
structure TreesR [Go.W.Origin] (Q : RoomI) (G : List Blk) (bt b bb sb : Nat) (wv : Value) (σ : Sto) (N : Nat) (R : List Blk) (w : World) : Prop where
  ex : ∃ (D : List Int) (r : Nat → Int) (L : Nat → List Pr) (lv : Nat → Value) (P Hb HL : List Blk), Top Q σ D r L N ∧ WldR G b bb sb σ wv P Hb ∧ (∀ i < 4, Rd 2 (lv i) (prs (L i)) HL) ∧
    Sat G w ((bt, row 33 (tcells sb b r lv)) :: (Hb ++ (HL ++ R)))
theorem step_put {i : Nat} {to : Int} {l : List Pr} {v : Value} {D' : List Int} {N' : Nat} {X P' Hb' : List Blk} (hi : i < 4) (hT : Top Q σ' D' (upd r i to) (upd L i l) N') (hW : WldR G b bb sb σ' wv P' Hb') (hl : ∀ i < 4, Rd 2 (lv i) (prs (L i)) HL) (hv : Rd 2 v (prs l) (X ++ HL))
    (hs : Sat G w ((bt, row 33 (tcells sb b r lv)) :: (Hb' ++ ((X ++ HL) ++ R))))
    (hk : ∀ w', TreesR Q G bt b bb sb wv σ' N' R w' → k undef w') {f : K} (hf : f = k) :
    W.st w 1 (at_ bt (0 + 2 + (i : Int).toNat * 1)) (int to) fun _ w => W.idxA w 4 1 (at_ bt (0 + 6)) (int i) fun t w => W.st w 1 t v f := by
  subst hf
  refine st_r hs .head (by have := Int.toNat_natCast i; simp; omega) rfl fun w hs => ?_
  rw [tc_sr hi] at hs
  refine idxA_r (by omega) (by omega) (st_r hs .head (by simp; omega) hv.one fun w hs => ?_)
  rw [tc_sl hi] at hs
  refine hk w ⟨D', _, _, _, P', Hb', X ++ HL, hT, hW, fun j hj => ?_, hs⟩
  by_cases e : j = i
  · subst e; simp only [upd, if_pos]; exact hv
  · simp only [upd, if_neg e]; exact (hl j hj).mono fun q hq => by simp [hq]
theorem step_move {i : Nat} {to : Int} {l : List Pr} {v : Value} {X : List Blk} (hi : i < 4) (ht : Top Q σ D r L N) (hm : (to = 0 ∧ l = []) ∨ ∃ k < 4, to = r k ∧ l = L k) (h : WldR G b bb sb σ wv P Hb) (hl : ∀ i < 4, Rd 2 (lv i) (prs (L i)) HL) (hv : Rd 2 v (prs l) HL)
    (hs : Sat G w ((bt, row 33 (tcells sb b r lv)) :: (Hb ++ (HL ++ (X ++ R)))))
    (hk : ∀ σ' w', σ'.done = σ.done → TreesR Q G bt b bb sb wv σ' N R w' → k (.tuple #[.bool true, .bool false]) w') :
    b_portagelaw12_trees_stepj9 (ptr bt) (int i) (int (r i)) (int to) v k w := by
  unfold b_portagelaw12_trees_stepj9
  obtain ⟨σ1, σ2, D', h1, h2, hdone, hT⟩ := ht.move hi hm
  have fin : ∀ {Hb : List Blk} (w : World), WldR G b bb sb σ2 wv P Hb → Sat G w ((bt, row 33 (tcells sb b r lv)) :: (Hb ++ (HL ++ (X ++ R)))) →
      (draw w fun w =>
          nn w (ptr bt) fun t209_1 w =>
          W.add w 2 t209_1 fun t210_1 w =>
          W.idxA w 4 1 t210_1 (int i) fun t211_1 w =>
          nn w (ptr bt) fun t212_1 w =>
          W.add w 6 t212_1 fun t213_1 w =>
          W.st w 1 t211_1 (int to) fun _ w =>
          W.idxA w 4 1 t213_1 (int i) fun t214_1 w =>
          W.st w 1 t214_1 v fun _ w =>
          k (.tuple #[(.bool true), (.bool false)]) w) := by
    intro Hb w hW hs
    refine draw_r hs fun w hs => ?_
    refine nn_r (add_r (idxA_r (by omega) (by omega) (nn_r (add_r ?_))))
    refine step_put (X := []) hi hT hW hl hv (hs.perm (H' := (bt, row 33 (tcells sb b r lv)) :: (Hb ++ (([] ++ HL) ++ (X ++ R)))) (by refine perm_of_cnt fun a => ?_; simp only [cnt_app, cnt_cons, cnt_nil] at *; omega)) (k := fun _ w => k (.tuple #[.bool true, .bool false]) w) (fun w hx => ?_) rfl
    obtain ⟨D2, r2, L2, lv2, P2, Hb2, HL2, e1, e2, e3, e4⟩ := hx
    exact hk σ2 w hdone ⟨D2, r2, L2, lv2, P2, Hb2, HL2, e1, e2, e3, (e4.perm (H' := X ++ ((bt, row 33 (tcells sb b r2 lv2)) :: (Hb2 ++ (HL2 ++ R)))) (by refine perm_of_cnt fun a => ?_; simp only [cnt_app, cnt_cons, cnt_nil] at *; omega)).drop⟩
  have two : ∀ {Hb : List Blk} (w : World), WldR G b bb sb σ1 wv P Hb → Sat G w ((bt, row 33 (tcells sb b r lv)) :: (Hb ++ (HL ++ (X ++ R)))) →
      (W.bin w .neq (int (r i)) (.int .i64 0) fun t192 w =>
      Br t192 (
        nn w (ptr bt) fun t195 w =>
        W.add w 1 t195 fun t196 w =>
        W.ld w t196 fun t197 w =>
        call Tryz.prog w 73 [t197, int (r i)] fun t199 w =>
        eq w true true .iface t199 .nilIface fun t200 w =>
        Br t200 (
          k (.tuple #[(.bool false), (.bool false)]) w
        ) (
          draw w fun w =>
          nn w (ptr bt) fun t209_1 w =>
          W.add w 2 t209_1 fun t210_1 w =>
          W.idxA w 4 1 t210_1 (int i) fun t211_1 w =>
          nn w (ptr bt) fun t212_1 w =>
          W.add w 6 t212_1 fun t213_1 w =>
          W.st w 1 t211_1 (int to) fun _ w =>
          W.idxA w 4 1 t213_1 (int i) fun t214_1 w =>
          W.st w 1 t214_1 v fun _ w =>
          k (.tuple #[(.bool true), (.bool false)]) w
        )
      ) (
        draw w fun w =>
          nn w (ptr bt) fun t209_1 w =>
          W.add w 2 t209_1 fun t210_1 w =>
          W.idxA w 4 1 t210_1 (int i) fun t211_1 w =>
          nn w (ptr bt) fun t212_1 w =>
          W.add w 6 t212_1 fun t213_1 w =>
          W.st w 1 t211_1 (int to) fun _ w =>
          W.idxA w 4 1 t213_1 (int i) fun t214_1 w =>
          W.st w 1 t214_1 v fun _ w =>
          k (.tuple #[(.bool true), (.bool false)]) w
      )) := by
    intro Hb w hW hs
    rcases h2 with ⟨h0, rfl⟩ | ⟨h0, hd⟩
    · exact bin_neq (Br_ne (fun h => absurd h0 h) (fun _ => fin w hW hs))
    · refine bin_neq (Br_ne (fun _ => ?_) (fun h => absurd h h0))
      refine nn_r (add_r (ld_r hs (.head _) rfl ?_))
      refine pages_Drop hs hW (.cons .here) hd fun Hb2 w hW2 hs => ?_
      exact eq_nn (Br_f (fin w hW2 (hs.perm (by refine perm_of_cnt fun a => ?_; simp only [cnt_app, cnt_cons, cnt_nil] at *; omega))))
  rcases h1 with ⟨h0, rfl⟩ | ⟨h0, hh⟩
  · exact bin_neq (Br_ne (fun h => absurd h0 h) (fun _ => two w h hs))
  · refine bin_neq (Br_ne (fun _ => ?_) (fun h => absurd h h0))
    refine nn_r (add_r (ld_r hs (.head _) rfl ?_))
    refine pages_Hold hs h (.cons .here) hh fun Hb2 w hW2 hs => ?_
    exact eq_nn (Br_f (two w hW2 (hs.perm (by refine perm_of_cnt fun a => ?_; simp only [cnt_app, cnt_cons, cnt_nil] at *; omega))))
end
end Go.Proofs.YtemenmmekddjaaaGreatDoor
end
section
namespace Go.Proofs.YtemenmmekddjaaaGreatDoor
open Go Go.Wx Go.W
variable {ω : Go.W.Origin}
section
variable {G H A R Hb Hc Hv P Rb HL : List Blk} {w : World} {k : K} {bt b bb sb : Nat} {σ σ' : Sto} {wv : Value} {Q : RoomI} {D : List Int} {r : Nat → Int} {L : Nat → List Pr} {lv : Nat → Value} {N : Nat}
theorem look_some {key : Int} {L : List Pr} {v0 : Int} (h : lookL key L = some v0) : ∃ e ∈ L, e.1 = key := by
  unfold lookL at h
  cases hf : L.find? (fun e => decide (e.1 = key)) with
  | none => rw [hf] at h; cases h
  | some e => exact ⟨e, List.mem_of_find?_eq_some hf, by simpa using List.find?_some hf⟩
theorem bt_Delete_miss {H : List Blk} {root key : Int} {L : List Pr} (hs : Sat G w H) (h : WldR G b bb sb σ wv P Hb) (hsel : Sel Hb H R) (hok : ∀ b x, σ.nd b = some x → NdOk x) (ht : RootT σ.nd root L) (hL : Srt L) (hn : lookL key L = none)
    (hk : ∀ w', Sat G w' H → k (.tuple #[int 0, .iface 149 (int 81)]) w') : call Tryz.prog w 69 [ptr b, int root, int key] k := by
  refine b_btree_Delete_walk ?_
  unfold b_btree_Delete
  refine box_r hs rfl fun b5 w hs => ?_
  refine ld_r hs (.head _) rfl ?_
  rcases ht with ⟨ha, rfl⟩ | ⟨n, s, c, ht⟩
  · refine bt_Find_none hs h (.cons hsel) (nd_none.1 ha) fun w hs => ?_
    refine tup_r rfl (tup_r rfl (un_not (Br_t ?_)))
    exact hk w hs.tail
  · refine bt_Find hs h (.cons hsel) hok ht hL fun w hs => ?_
    rw [hn]
    refine tup_r rfl (tup_r rfl (un_not (Br_t ?_)))
    exact hk w hs.tail
theorem law_step {kind tr key val : Int} (hTab : Tab G) (ht : Top Q σ D r L N) (hN : N ≤ 900) (hd : σ.done + 100 < 1000000000) (h : WldR G b bb sb σ wv P Hb) (hl : ∀ i < 4, Rd 2 (lv i) (prs (L i)) HL)
    (hs : Sat G w ((bt, row 33 (tcells sb b r lv)) :: (Hb ++ (HL ++ R))))
    (hk : ∀ σ' N' full w', σ'.done ≤ σ.done + 60 → N' ≤ N + 1 → (full = true → σ'.pg = σ.pg) → TreesR Q G bt b bb sb wv σ' N' R w' → k (.tuple #[.bool true, .bool full]) w') :
    call Tryz.prog w 15 [ptr bt, .agg [int kind, int tr, int key, int val].toArray] k := by
  refine b_portagelaw12_trees_step_walk ?_
  unfold b_portagelaw12_trees_step
  refine boxA_r (cs := [int kind, int tr, int key, int val]) hs fun b3 w hs => ?_
  refine add_r (ld_r hs (.head _) rfl ?_)
  refine law_mod fun i hi => ?_
  have hbt : ∀ {Y : List Blk}, (bt, row 33 (tcells sb b r lv)) ∈ (b3, row 35 [int kind, int tr, int key, int val]) :: (bt, row 33 (tcells sb b r lv)) :: Y := fun {Y} => .tail _ (.head _)
  refine nn_r (add_r (idxA_r (by omega) (by omega) (ld_r hs hbt (tc_r hi) ?_)))
  refine add_r (ld_r hs (.head _) rfl ?_)
  have hokN := ht.okN
  have hlL := ht.len i hi
  refine bin_eql (Br_eq (fun h1 => ?_) (fun h1 => ?_))
  · -- Set
    refine drawS_r (fun w => Sat G w ((b3, row 35 [int kind, int tr, int key, int val]) :: (bt, row 33 (tcells sb b r lv)) :: (Hb ++ (HL ++ R)))) hs fun w hs => ?_
    refine nn_r (add_r (add_r (add_r ?_)))
    refine held_ld hs hbt rfl (held_ld hs (.head _) rfl (held_ld hs (.head _) rfl ?_))
    rcases Classical.em (PrOk (key, val)) with hp | hp
    · obtain ⟨p1, p2, p3, p4⟩ := hp
      simp only at p1 p2 p3 p4
      obtain ⟨σ', res, hset, hdone, hres⟩ := ht.set (key := key) (val := val) hi ⟨p1, p2, p3, p4⟩ (by omega) hd
      refine bt_Set hTab hs h (.cons (.cons .here)) ⟨p1, p2, p3, p4⟩ hset (fun hr X Hb' w hW hs => ?_) (fun to hr X Hb' w hW hs => ?_)
      · subst hr
        obtain ⟨hpg, hT'⟩ := hres
        have hs := hs.perm (H' := (b3, row 35 [int kind, int tr, int key, int val]) :: ((bt, row 33 (tcells sb b r lv)) :: (Hb' ++ (HL ++ R)))) (by refine perm_of_cnt fun a => ?_; simp only [cnt_app, cnt_cons, cnt_nil] at *; omega)
        refine tup_r rfl (tup_r rfl (add_r (ld_r hs (.head _) rfl (bin_lss (Br_d (fun h => by omega) (fun _ => ?_))))))
        refine add_r (ld_r hs (.head _) rfl (bin_gtr (Br_d (fun h => by omega) (fun _ => ?_))))
        refine add_r (ld_r hs (.head _) rfl (bin_lss (Br_d (fun h => by omega) (fun _ => ?_))))
        refine add_r (ld_r hs (.head _) rfl (bin_gtr (Br_d (fun h => by omega) (fun _ => ?_))))
        refine eq_ifn (Br_t (law_is_50 (Br_t (bin_eql ?_))))
        exact hk σ' N true w hdone (by omega) (fun _ => hpg) ⟨D, r, L, lv, X ++ P, Hb', HL, hT', hW, hl, hs.tail⟩
      · subst hr
        obtain ⟨D', hT'⟩ := hres
        have hs := hs.perm (H' := (b3, row 35 [int kind, int tr, int key, int val]) :: ((bt, row 33 (tcells sb b r lv)) :: (Hb' ++ (HL ++ R)))) (by refine perm_of_cnt fun a => ?_; simp only [cnt_app, cnt_cons, cnt_nil] at *; omega)
        refine tup_r rfl (tup_r rfl (add_r (ld_r hs (.head _) rfl (bin_lss (Br_d (fun h => by omega) (fun _ => ?_))))))
        refine add_r (ld_r hs (.head _) rfl (bin_gtr (Br_d (fun h => by omega) (fun _ => ?_))))
        refine add_r (ld_r hs (.head _) rfl (bin_lss (Br_d (fun h => by omega) (fun _ => ?_))))
        refine add_r (ld_r hs (.head _) rfl (bin_gtr (Br_d (fun h => by omega) (fun _ => ?_))))
        refine eq_nn (Br_f ?_)
        refine drawS_r (fun w => Sat G w ((b3, row 35 [int kind, int tr, int key, int val]) :: ((bt, row 33 (tcells sb b r lv)) :: (Hb' ++ (HL ++ R))))) hs fun w hs => ?_
        refine nn_r (add_r (idxA_r (by omega) (by omega) (add_r (add_r (nn_r (add_r (nn_r (add_r ?_))))))))
        refine held_ld hs hbt (tc_l hi) (held_ld hs (.head _) rfl (held_ld hs (.head _) rfl ?_))
        refine ref_Set hs ((hl i hi).mono fun q hq => by simp [hq]) (ht.srt hi) (by omega) fun v' Ho w ho hs => ?_
        refine idxA_r (by omega) (by omega) ?_
        refine step_put (X := Ho) hi hT' hW hl (ho.rd fun q hq => by simp [hq]) (R := (b3, row 35 [int kind, int tr, int key, int val]) :: R) (hs.perm (by refine perm_of_cnt fun a => ?_; simp only [cnt_app, cnt_cons, cnt_nil] at *; omega)) (k := fun _ w => k (.tuple #[.bool true, .bool false]) w) (fun w hx => ?_) rfl
        obtain ⟨D2, r2, L2, lv2, P2, Hb2, HL2, e1, e2, e3, e4⟩ := hx
        exact hk σ' (N + 1) false w hdone (by omega) (fun h => by cases h) ⟨D2, r2, L2, lv2, P2, Hb2, HL2, e1, e2, e3, (e4.perm (H' := (b3, row 35 [int kind, int tr, int key, int val]) :: ((bt, row 33 (tcells sb b r2 lv2)) :: (Hb2 ++ (HL2 ++ R)))) (by refine perm_of_cnt fun a => ?_; simp only [cnt_app, cnt_cons, cnt_nil] at *; omega)).tail⟩
    · refine bt_Set_bad hs hp fun w hs => ?_
      have fin : TreesR Q G bt b bb sb wv σ N R w := ⟨D, r, L, lv, P, Hb, HL, ht, h, hl, hs.tail⟩
      have fin := hk σ N false w (by omega) (by omega) (fun h => by cases h) fin
      refine tup_r rfl (tup_r rfl (add_r (ld_r hs (.head _) rfl (bin_lss (Br_d (fun h => ?_) (fun q1 => ?_))))))
      · exact law_is_80 (Br_t (bin_eql fin))
      refine add_r (ld_r hs (.head _) rfl (bin_gtr (Br_d (fun h => ?_) (fun q2 => ?_))))
      · exact law_is_80 (Br_t (bin_eql fin))
      refine add_r (ld_r hs (.head _) rfl (bin_lss (Br_d (fun h => ?_) (fun q3 => ?_))))
      · exact law_is_80 (Br_t (bin_eql fin))
      refine add_r (ld_r hs (.head _) rfl (bin_gtr (Br_d (fun h => ?_) (fun q4 => ?_))))
      · exact law_is_80 (Br_t (bin_eql fin))
      exact absurd ⟨by simp only; omega, by simp only; omega, by simp only; omega, by simp only; omega⟩ hp
  · refine bin_eql (Br_eq (fun h2 => ?_) (fun h2 => ?_))
    · -- Delete
      refine drawS_r (fun w => Sat G w ((b3, row 35 [int kind, int tr, int key, int val]) :: (bt, row 33 (tcells sb b r lv)) :: (Hb ++ (HL ++ R)))) hs fun w hs => ?_
      refine nn_r (add_r (add_r ?_))
      refine held_ld hs hbt rfl (held_ld hs (.head _) rfl ?_)
      cases hlook : lookL key (L i) with
      | none =>
        refine bt_Delete_miss hs h (.cons (.cons .here)) hokN (ht.rootT hi) (ht.srt hi) hlook fun w hs => ?_
        refine tup_r rfl (tup_r rfl ?_)
        refine drawS_r (fun w => Sat G w ((b3, row 35 [int kind, int tr, int key, int val]) :: (bt, row 33 (tcells sb b r lv)) :: (Hb ++ (HL ++ R)))) hs fun w hs => ?_
        refine nn_r (add_r (idxA_r (by omega) (by omega) (add_r ?_)))
        refine held_ld hs hbt (tc_l hi) (held_ld hs (.head _) rfl ?_)
        refine ref_Find hs ((hl i hi).mono fun q hq => by simp [hq]) (by omega) fun w hs => ?_
        rw [hlook]
        refine tup_r rfl (tup_r rfl (un_not (Br_t ?_)))
        exact law_is_81 (Br_t (bin_eql (hk σ N false w (by omega) (by omega) (fun h => by cases h) ⟨D, r, L, lv, P, Hb, HL, ht, h, hl, hs.tail⟩)))
      | some v0 =>
        have hex := look_some hlook
        obtain ⟨σ', res, hrun, hdone, hres⟩ := ht.del (key := key) hi hex (by omega) hd
        rcases ht.root hi with ⟨_, e⟩ | ⟨_, _, _, _, n, s, c, htr, _⟩
        · obtain ⟨x, hx, _⟩ := hex
          rw [e] at hx; simp at hx
        refine bt_Delete hTab hs h (.cons (.cons .here)) hokN htr (ht.srt hi) hlook hrun (fun hr X Hb' w hW hs => ?_) (fun to hr X Hb' w hW hs => ?_)
        · subst hr
          obtain ⟨hpg, hT'⟩ := hres
          have hs := hs.perm (H' := (b3, row 35 [int kind, int tr, int key, int val]) :: ((bt, row 33 (tcells sb b r lv)) :: (Hb' ++ (HL ++ R)))) (by refine perm_of_cnt fun a => ?_; simp only [cnt_app, cnt_cons, cnt_nil] at *; omega)
          refine tup_r rfl (tup_r rfl ?_)
          refine drawS_r (fun w => Sat G w ((b3, row 35 [int kind, int tr, int key, int val]) :: ((bt, row 33 (tcells sb b r lv)) :: (Hb' ++ (HL ++ R))))) hs fun w hs => ?_
          refine nn_r (add_r (idxA_r (by omega) (by omega) (add_r ?_)))
          refine held_ld hs hbt (tc_l hi) (held_ld hs (.head _) rfl ?_)
          refine ref_Find hs ((hl i hi).mono fun q hq => by simp [hq]) (by omega) fun w hs => ?_
          rw [hlook]
          refine tup_r rfl (tup_r rfl (un_not (Br_f ?_)))
          refine eq_ifn (Br_t (law_is_50 (Br_t (bin_eql ?_))))
          exact hk σ' N true w hdone (by omega) (fun _ => hpg) ⟨D, r, L, lv, X ++ P, Hb', HL, hT', hW, hl, hs.tail⟩
        · subst hr
          obtain ⟨D', hT'⟩ := hres
          have hs := hs.perm (H' := (b3, row 35 [int kind, int tr, int key, int val]) :: ((bt, row 33 (tcells sb b r lv)) :: (Hb' ++ (HL ++ R)))) (by refine perm_of_cnt fun a => ?_; simp only [cnt_app, cnt_cons, cnt_nil] at *; omega)
          refine tup_r rfl (tup_r rfl ?_)
          refine drawS_r (fun w => Sat G w ((b3, row 35 [int kind, int tr, int key, int val]) :: ((bt, row 33 (tcells sb b r lv)) :: (Hb' ++ (HL ++ R))))) hs fun w hs => ?_
          refine nn_r (add_r (idxA_r (by omega) (by omega) (add_r ?_)))
          refine held_ld hs hbt (tc_l hi) (held_ld hs (.head _) rfl ?_)
          refine ref_Find hs ((hl i hi).mono fun q hq => by simp [hq]) (by omega) fun w hs => ?_
          rw [hlook]
          refine tup_r rfl (tup_r rfl (un_not (Br_f ?_)))
          refine eq_nn (Br_f ?_)
          refine drawS_r (fun w => Sat G w ((b3, row 35 [int kind, int tr, int key, int val]) :: ((bt, row 33 (tcells sb b r lv)) :: (Hb' ++ (HL ++ R))))) hs fun w hs => ?_
          refine nn_r (add_r (idxA_r (by omega) (by omega) (add_r (nn_r (add_r (nn_r (add_r ?_)))))))
          refine held_ld hs hbt (tc_l hi) (held_ld hs (.head _) rfl ?_)
          refine ref_Without hs ((hl i hi).mono fun q hq => by simp [hq]) (by omega) fun v' Ho w ho hs => ?_
          refine idxA_r (by omega) (by omega) ?_
          refine step_put (X := Ho) hi hT' hW hl (ho.rd fun q hq => by simp [hq]) (R := (b3, row 35 [int kind, int tr, int key, int val]) :: R) (hs.perm (by refine perm_of_cnt fun a => ?_; simp only [cnt_app, cnt_cons, cnt_nil] at *; omega)) (k := fun _ w => k (.tuple #[.bool true, .bool false]) w) (fun w hx => ?_) rfl
          obtain ⟨D2, r2, L2, lv2, P2, Hb2, HL2, e1, e2, e3, e4⟩ := hx
          exact hk σ' N false w hdone (by omega) (fun h => by cases h) ⟨D2, r2, L2, lv2, P2, Hb2, HL2, e1, e2, e3, (e4.perm (H' := (b3, row 35 [int kind, int tr, int key, int val]) :: ((bt, row 33 (tcells sb b r2 lv2)) :: (Hb2 ++ (HL2 ++ R)))) (by refine perm_of_cnt fun a => ?_; simp only [cnt_app, cnt_cons, cnt_nil] at *; omega)).tail⟩
    · -- another tree
      have mv : ∀ {to : Int} {l : List Pr} {v : Value} (w : World), ((to = 0 ∧ l = []) ∨ ∃ k < 4, to = r k ∧ l = L k) → Rd 2 v (prs l) HL → Sat G w ((b3, row 35 [int kind, int tr, int key, int val]) :: (bt, row 33 (tcells sb b r lv)) :: (Hb ++ (HL ++ R))) →
          b_portagelaw12_trees_stepj9 (ptr bt) (int i) (int (r i)) (int to) v k w := fun {to l v} w hm hv hs =>
        step_move (X := [(b3, row 35 [int kind, int tr, int key, int val])]) (R := R) hi ht hm h hl hv (hs.perm (by refine perm_of_cnt fun a => ?_; simp only [cnt_app, cnt_cons, cnt_nil] at *; omega)) fun σ' w hdone hx => hk σ' N false w (by omega) (by omega) (fun h => by cases h) hx
      have j8 : ∀ (t : Bool), b_portagelaw12_trees_stepj8 (ptr bt) (ptr b3) (int i) (int (r i)) (.bool t) k w := by
        intro t
        unfold b_portagelaw12_trees_stepj8
        refine Br_r (fun _ => ?_) (fun _ => ?_)
        · refine add_r (ld_r hs (.head _) rfl ?_)
          refine law_mod fun kk hkk => ?_
          refine add_r (ld_r hs (.head _) rfl (bin_eql (Br_eq (fun _ => ?_) (fun _ => ?_))))
          · refine drawS_r (fun w => Sat G w ((b3, row 35 [int kind, int tr, int key, int val]) :: (bt, row 33 (tcells sb b r lv)) :: (Hb ++ (HL ++ R)))) hs fun w hs => ?_
            refine nn_r (add_r (idxA_r (by omega) (by omega) (nn_r (add_r (idxA_r (by omega) (by omega) ?_)))))
            refine held_ld hs hbt (tc_r hkk) (held_ld hs hbt (tc_l hkk) ?_)
            exact mv w (.inr ⟨kk, hkk, rfl, rfl⟩) (hl kk hkk) hs
          · exact mv w (.inl ⟨rfl, rfl⟩) (.nil rfl rfl) hs
        · exact hk σ N false w (by omega) (by omega) (fun h => by cases h) ⟨D, r, L, lv, P, Hb, HL, ht, h, hl, hs.tail⟩
      refine bin_eql (Br_eq (fun h3 => ?_) (fun h3 => ?_))
      · have := j8 (kind == 3)
        exact this
      · exact bin_eql (j8 _)
end
end Go.Proofs.YtemenmmekddjaaaGreatDoor
end
