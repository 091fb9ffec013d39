/- What the law's fixed answer does, and small parts of the law itself. No condition. The law BtreeFull: it answers true. No condition. -/
import Derived.Test.YtemenmmekddjaaaGreatDoorJ36
import Derived.Test.YtemenmmekddjaaaGreatDoorJ37
set_option linter.all false
set_option linter.unusedVariables false
set_option linter.unusedSimpArgs false
set_option linter.unnecessarySimpa false
set_option linter.unusedSectionVars false
set_option linter.constructorNameAsVariable false
section
namespace Go.Proofs.YtemenmmekddjaaaGreatDoor
open Go Go.Wx Go.W
variable {ω : Go.W.Origin}
theorem Tab.mono {G G' : List Blk} (h : Tab G) (hm : ∀ q ∈ G, q ∈ G') : Tab G' := by
  obtain ⟨T, hT⟩ := h
  exact ⟨T, hT.mono hm⟩
section
variable {G H A R Hb Hc Hv P Rb HL X : List Blk} {w : World} {k : K} {bt b bb sb : Nat} {σ σ' : Sto} {wv : Value} {Q : RoomI} {D : List Int} {r : Nat → Int} {L : Nat → List Pr} {lv : Nat → Value} {N : Nat}
theorem thaw (hs : Sat (X ++ G) w H) : Sat G w H := by
  have hs : Sat [] w (X ++ G ++ H) := by simpa using hs.whole
  have := (hs.perm (H' := X ++ (G ++ H)) (by refine perm_of_cnt fun a => ?_; simp only [cnt_app, cnt_cons, cnt_nil] at *; omega)).drop
  exact ⟨by simpa using this.nodup, fun p hp => this.here p (by simpa using hp), this.kept⟩
theorem Top.hlen (h : Top Q σ D r L N) : ∀ E : List Int, E.Nodup → (∀ a ∈ E, σ.pg a ≠ none) → E.length < 65536 := fun E hE ha => by
  have := sub_len hE fun a h1 => (h.ip.mem a).2 (ha a h1)
  have := h.ip.dlen
  omega
theorem wld_Free (hs : Sat G w H) (h : WldR G b bb sb σ wv P Hb) (hsel : Sel Hb H R) (hk : ∀ w', Sat G w' H → k (int (freeSum σ.ds)) w') : call Tryz.prog w 13 [ptr sb] k := by
  have hpm := hsel.perm
  have hs := hs.sel hsel
  cases h with
  | @mk mb clock es F Hk Hp hm hP hbk hsp hfit htop hwv =>
    refine space_Free (R := (b, row 123 [ptr bb, ptr sb, .map (some mb), wv]) :: (mb, Obj.map es.toArray clock) :: (P ++ (Hk ++ R))) (hs.perm (H' := Hp ++ ((b, row 123 [ptr bb, ptr sb, .map (some mb), wv]) :: (mb, Obj.map es.toArray clock) :: (P ++ (Hk ++ R)))) (by refine perm_of_cnt fun a => ?_; simp only [cnt_app, cnt_cons, cnt_nil] at *; omega)) hsp .here fun w hs => ?_
    exact hk w (hs.perm (by refine perm_of_cnt fun a => ?_; have q0 := cnt_perm hpm a; simp only [cnt_app, cnt_cons, cnt_nil] at *; omega))
theorem best10 : best (laid (baseOf [10]) fun _ => false) (actives (laid (baseOf [10]) fun _ => false)) = (0, 8) := by decide
theorem law_awake (hTab : Tab G) (hs : Sat G w H) (hk : ∀ w', Sat G w' H → k (.bool true) w') : call Tryz.prog w 10 [] k := by
  refine b_portagelaw12_awake_walk ?_
  unfold b_portagelaw12_awake
  refine bldS_r (cs := [int 10]) hs (fill_one rfl) (by decide) fun b6 w hs => ?_
  have h8 : ([10] : List Nat).length ≤ 8 := by decide
  have h3 : ∀ n ∈ ([10] : List Nat), 3 ≤ n ∧ n ≤ 4096 := by decide
  refine law_made (ns := [10]) hs (.some rfl rfl ⟨_, _, .of (List.mem_append_right _ (.head _)), fun j x hj => by rw [Nat.zero_add]; exact hj⟩) h8 h3 fun bt b bb sb Hb Hv w hW hs => ?_
  have ht := top0 (bk := banksOf [10]) (baseOk h8 h3)
  obtain ⟨σ', res, hset, -, hres⟩ := ht.set (i := 0) (key := 1) (val := 5) (by decide) ⟨by decide, by decide, by decide, by decide⟩ (by decide) (by decide)
  refine eq_pn (Br_f (nn_r (add_r (ld_r hs (.head _) rfl (eq_pn (Br_f ?_))))))
  refine nn_r (add_r (ld_r hs (.head _) rfl ?_))
  have hTab' : Tab (Hv ++ G) := hTab.mono fun q hq => by simp [hq]
  have hpg : res = some 2 ∧ ∃ p, σ'.pg 2 = some p ∧ p.holds = 1 := by
    cases hset with
    | full h0 hc h =>
      cases h with
      | full h => rw [best10] at h; cases h
    | run h0 _ => exact absurd rfl h0
    | one h0 hc h h2 =>
      cases h with
      | @ok i q hT hd hb =>
        obtain ⟨q1, q2, d, q3, q4, q5, q6, q7, q8⟩ := hT
        rw [best10] at q1
        dsimp only at q1
        subst q1
        have q3 : some (laid1 (fun _ => false) 0 (1, 10)) = some d := q3
        simp only [Option.some.injEq] at q3
        subst q3
        have hq : q = 2 := by
          rcases Nat.lt_or_ge 2 q with h | h
          · have := q8 2 (by omega) h
            simp [laid1, pgAt] at this
          · omega
        subst hq
        refine ⟨rfl, ?_⟩
        cases h2 with
        | @mk p hp _ _ _ _ =>
          refine ⟨_, by simp only [own_pg, add_pg]; rfl, ?_⟩
          simp [Sto.put, Sto.adds, kids, Sto.set] at hp ⊢
  obtain ⟨rfl, p, hp, hp1⟩ := hpg
  obtain ⟨D', hT'⟩ := hres
  refine bt_Set hTab' hs hW (.cons .here) ⟨by decide, by decide, by decide, by decide⟩ hset (fun h => by cases h) (fun to hr X Hb' w hW' hs => ?_)
  cases hr
  refine tup_r rfl (tup_r rfl ?_)
  have hs := hs.perm (H' := (bt, row 33 (tcells sb b (fun _ => 0) (fun _ => .slice none 0 0))) :: (Hb' ++ ((b6, row 3 [int 10]) :: H))) (by refine perm_of_cnt fun a => ?_; simp only [cnt_app, cnt_cons, cnt_nil] at *; omega)
  refine nn_r (add_r (ld_r hs (.head _) rfl ?_))
  rcases hT'.rootT (i := 0) (by decide) with ⟨hn, _⟩ | ⟨n, s, c, hT0⟩
  · rw [nd_none] at hn
    have hn : σ'.pg 2 = none := hn
    rw [hp] at hn; cases hn
  have hT0 : T σ'.nd n 2 [(1, 5)] s c := hT0
  refine bt_Find hs hW' (.cons .here) hT'.okN hT0 (List.pairwise_singleton _ _) fun w hs => ?_
  refine tup_r rfl (tup_r rfl ?_)
  refine eq_nn (Br_t (bin_eql (Br_t (Br_t (bin_eql (Br_t ?_))))))
  refine nn_r (add_r (ld_r hs (.head _) rfl ?_))
  refine pages_Holds hs hW' (.cons .here) ?_
  rw [hp]
  dsimp only
  rw [hp1]
  refine bin_eql ?_
  exact hk w ((thaw hs).perm (H' := ((bt, row 33 (tcells sb b (fun _ => 0) (fun _ => .slice none 0 0))) :: (Hb' ++ [(b6, row 3 [int 10])])) ++ H) (by refine perm_of_cnt fun a => ?_; simp only [cnt_app, cnt_cons, cnt_nil] at *; omega)).drop
end
end Go.Proofs.YtemenmmekddjaaaGreatDoor
end
section
namespace Go.Proofs.YtemenmmekddjaaaGreatDoor
open Go Go.Wx Go.W
variable {ω : Go.W.Origin}
abbrev Op4 := Int × Int × Int × Int
abbrev op4 (o : Op4) : List Value := [int o.1, int o.2.1, int o.2.2.1, int o.2.2.2]
def holdsOf (σ : Sto) (a : Int) : Int := match σ.pg a with
  | some p => p.holds
  | none => 0
section
variable {G H A R Hb Hc Hv P Rb HL X : List Blk} {w : World} {k : K} {bt b bb sb : Nat} {σ σ' : Sto} {wv : Value} {Q : RoomI} {D : List Int} {r : Nat → Int} {L : Nat → List Pr} {lv : Nat → Value} {N : Nat}
theorem law_BtreeFull {ss : List Int} {ops : List Op4} {v0 v1 : Value} {a0 a1 : Option Addr} {c0 c1 : Nat} (hTab : Tab G) (hs : Sat G w H) (e0 : v0 = .slice a0 ss.length c0) (e1 : v1 = .slice a1 ops.length c1) (hr0 : ss ≠ [] → Rd 1 v0 (ss.map int) G) (hr1 : ops ≠ [] → Rd 4 v1 (ops.flatMap op4) G)
    (hk : ∀ w', Sat G w' H → k (.bool true) w') : call Tryz.prog w 3 [v0, v1] k := by
  refine b_portagelaw12_BtreeFull_walk ?_
  unfold b_portagelaw12_BtreeFull
  have len0 : ∀ {k : K} {w : World}, k (int ss.length) w → W.len w v0 k := fun hk => by subst e0; exact len_r hk
  have len1 : ∀ {k : K} {w : World}, k (int ops.length) w → W.len w v1 k := fun hk => by subst e1; exact len_r hk
  have aw : ∀ w, Sat G w H → (call Tryz.prog w 10 [] fun t w => k t w) := fun w hs => law_awake hTab hs hk
  refine len0 (bin_lss (Br_d (fun _ => aw w hs) (fun hlo => ?_)))
  have hr0 := hr0 (by rintro rfl; simp at hlo)
  refine len0 (bin_gtr (Br_d (fun _ => aw w hs) (fun hhi => ?_)))
  refine len1 (bin_gtr (Br_d (fun _ => aw w hs) (fun hops => ?_)))
  refine len0 ?_
  refine loop_r (fun cc vs w => ∃ i : Nat, i ≤ ss.length ∧ vs = [int i] ∧ cc = ss.length - i ∧ (∀ x ∈ ss.take i, 3 ≤ x ∧ x ≤ 60) ∧ Sat G w H) ss.length ⟨0, by omega, rfl, rfl, by simp, hs⟩ ?_
  clear hs
  rintro J cc vs w next ⟨i, hi, rfl, rfl, hall, hs⟩ hnext
  refine bin_lss (Br_d (fun hc => ?_) (fun hc => ?_))
  · have hi' : i < ss.length := by
      have : (i : Int) < ss.length := hc
      omega
    refine (hr0.left (H := H)).ld1 hs.whole hi' ?_
    refine bin_lss (Br_d (fun _ => aw w hs) (fun h1 => ?_))
    refine bin_gtr (Br_d (fun _ => aw w hs) (fun h2 => ?_))
    refine bin_add (by omega) (by omega) (hnext (ss.length - (i + 1)) _ _ (by omega) ⟨i + 1, by omega, rfl, rfl, fun x hx => ?_, hs⟩)
    rw [List.take_add_one, List.getElem?_eq_getElem hi'] at hx
    rcases List.mem_append.1 hx with hx | hx
    · exact hall x hx
    · simp at hx; subst hx; omega
  have hi' : i = ss.length := by
    have : ¬ (i : Int) < ss.length := hc
    omega
  subst hi'
  rw [List.take_length] at hall
  clear hnext hc
  have hns : ss.map int = (ss.map Int.toNat).map fun n : Nat => int n := by
    rw [List.map_map]
    apply List.map_congr_left
    intro x hx
    have := hall x hx
    simp; omega
  have h8 : (ss.map Int.toNat).length ≤ 8 := by simp; omega
  have h3 : ∀ n ∈ ss.map Int.toNat, 3 ≤ n ∧ n ≤ 4096 := by
    intro n hn
    obtain ⟨x, hx, rfl⟩ := List.mem_map.1 hn
    have := hall x hx
    omega
  rw [hns] at hr0
  generalize ss.map Int.toNat = ns at *
  refine law_made hs (hr0.left (H := H)) h8 h3 fun bt b bb sb Hb Hv w hW hs => ?_
  have hb := baseOk h8 h3
  have ht0 := top0 (bk := banksOf ns) hb
  refine eq_pn (Br_f (nn_r (add_r (ld_r hs (.head _) rfl (eq_pn (Br_f ?_))))))
  have hr1' : ops ≠ [] → Rd 4 v1 (ops.flatMap op4) (Hv ++ G) := fun h => (hr1 h).mono fun q hq => by simp [hq]
  have hTab' : Tab (Hv ++ G) := hTab.mono fun q hq => by simp [hq]
  refine len1 ?_
  refine loop_r (fun cc vs w => ∃ (j : Nat) (σ : Sto) (N : Nat), j ≤ ops.length ∧ vs = [int j] ∧ cc = ops.length - j ∧ σ.done ≤ 60 * j ∧ N ≤ j ∧ TreesR (roomOf (baseOf ns) hb) (Hv ++ G) bt b bb sb (.map none) σ N H w) ops.length ⟨0, _, 0, by omega, rfl, rfl, Nat.le_refl _, Nat.le_refl _, ⟨[], _, _, _, [], Hb, [], ht0, hW, fun i hi => .nil rfl rfl, hs⟩⟩ ?_
  clear hs hW ht0 Hb
  rintro J cc vs w next ⟨j, σ, N, hj, rfl, rfl, hdone, hN, ⟨D, r, L, lv, P, Hb, HL, ht, hW, hl, hs⟩⟩ hnext
  refine bin_lss (Br_d (fun hc => ?_) (fun hc => ?_))
  · have hj' : j < ops.length := by
      have : (j : Int) < ops.length := hc
      omega
    refine Rd.ldN (f := op4) ((hr1' (by rintro rfl; simp at hj')).left (H := (bt, row 33 (tcells sb b r lv)) :: (Hb ++ (HL ++ H)))) hs.whole (fun _ _ => rfl) (by decide) hj' ?_
    refine new_r (cs := [int 0, int 0, int 0, int 0]) hs fun b9 w hs => ?_
    refine stN_r (vs := op4 ops[j]) hs .head rfl (by simp) (by simp [Value.oneCell']) fun w hs => ?_
    have hs : Sat (Hv ++ G) w ((b9, row 35 (op4 ops[j])) :: (bt, row 33 (tcells sb b r lv)) :: (Hb ++ (HL ++ H))) := hs
    refine drawS_r (fun w => Sat (Hv ++ G) w ((b9, row 35 (op4 ops[j])) :: (bt, row 33 (tcells sb b r lv)) :: (Hb ++ (HL ++ H)))) hs fun w hs => ?_
    refine nn_r (add_r (nn_r (add_r ?_)))
    refine held_ld hs (.tail _ (.head _)) rfl (held_ld hs (.tail _ (.head _)) rfl ?_)
    refine pages_Pages hs hW (.cons (.cons .here)) ht.hlen fun vp lp Hp w hlp hop hs => ?_
    refine ⟨hs.drop, ?_⟩
    refine wld_Free hs hW (.app (.cons (.cons .here))) fun w hs => ?_
    have hrp : ∀ {Y : List Blk}, (∀ q ∈ Hp, q ∈ Y) → Rd 1 vp (lp.map int) Y := fun h => hop.rd h
    have hlpl : lp.length < 65536 := ht.hlen lp (hlp.1.imp fun h => by omega) fun a ha => (hlp.2 a).1 ha
    refine (hrp (Y := Hp) fun q hq => hq).len lp.length (by simp) (by decide) ?_
    refine loop_r (fun cc vs w => ∃ (m : Nat) (v' : Value) (Hq : List Blk), m ≤ lp.length ∧ vs = [v', int m] ∧ cc = lp.length - m ∧ W.Own 3 1 v' ((lp.take m).map fun a => int (holdsOf σ a)) Hq ∧ Sat (Hv ++ G) w (Hq ++ (Hp ++ ((b9, row 35 (op4 ops[j])) :: (bt, row 33 (tcells sb b r lv)) :: (Hb ++ (HL ++ H)))))) lp.length ⟨0, _, [], by omega, rfl, rfl, .nil, hs⟩ ?_
    clear hs
    rintro J cc vs w next3 ⟨m, v', Hq, hm, rfl, rfl, hoq, hs⟩ hnext3
    refine bin_lss (Br_d (fun hc => ?_) (fun hc => ?_))
    · have hm' : m < lp.length := by
        have : (m : Int) < lp.length := hc
        omega
      refine (hrp fun q hq => by simp [hq]).ld1 hs hm' ?_
      refine nn_r (add_r (ld_r hs (List.mem_append_right _ (List.mem_append_right _ (.tail _ (.head _)))) rfl ?_))
      refine pages_Holds hs hW (.app (.app (.cons (.cons .here)))) ?_
      have e1 : (lp.take m).length ≤ m := by rw [List.length_take]; omega
      refine app1_r (x := int (holdsOf σ lp[m])) hs hoq .here rfl (by decide) (by rw [List.length_map]; omega) fun v2 Hq2 w hoq2 hs => ?_
      refine bin_add (by omega) (by omega) (hnext3 (lp.length - (m + 1)) _ _ (by omega) ⟨m + 1, v2, Hq2, by omega, rfl, rfl, ?_, hs⟩)
      rw [List.take_add_one, List.getElem?_eq_getElem hm', List.map_append]
      exact hoq2
    have hm' : m = lp.length := by
      have : ¬ (m : Int) < lp.length := hc
      omega
    subst hm'
    rw [List.take_length] at hoq
    clear hnext3 hc
    refine ldN_r (vs := op4 ops[j]) hs (List.mem_append_right _ (List.mem_append_right _ (.head _))) rfl rfl ?_
    refine law_step (R := (b9, row 35 (op4 ops[j])) :: (Hq ++ (Hp ++ H))) hTab' ht (by omega) (by omega) hW hl (hs.perm (by refine perm_of_cnt fun a => ?_; simp only [cnt_app, cnt_cons, cnt_nil] at *; omega)) fun σ' N' full w hdone' hN' hfull hx => ?_
    obtain ⟨D', r', L', lv', P', Hb', HL', ht', hW', hl', hs⟩ := hx
    refine tup_r rfl (tup_r rfl (un_not (Br_f ?_)))
    refine law_holds ht' (by omega) hW' hs (.cons .here) (.head _) (fun i hi => (hl' i hi).mono fun q hq => by simp [hq]) ht'.hlen fun w hs => ?_
    refine un_not (Br_f (un_not ?_))
    have fin : ∀ w, Sat (Hv ++ G) w ((bt, row 33 (tcells sb b r' lv')) :: (Hb' ++ (HL' ++ ((b9, row 35 (op4 ops[j])) :: (Hq ++ (Hp ++ H)))))) → next [int ((j : Int) + 1)] w := fun w hs =>
      hnext (ops.length - (j + 1)) _ _ (by omega) ⟨j + 1, σ', N', by omega, rfl, rfl, by omega, by omega, ⟨D', r', L', lv', P', Hb', HL', ht', hW', hl', ((hs.perm (H' := ((b9, row 35 (op4 ops[j])) :: (Hq ++ Hp)) ++ ((bt, row 33 (tcells sb b r' lv')) :: (Hb' ++ (HL' ++ H)))) (by refine perm_of_cnt fun a => ?_; simp only [cnt_app, cnt_cons, cnt_nil] at *; omega)).drop)⟩⟩
    cases full with
    | false =>
      refine Br_t (bin_add (by omega) (by omega) (fin w hs))
    | true =>
      have hpg := hfull rfl
      have his : σ'.is = σ.is := by unfold Sto.is; rw [hpg]
      have hds : σ'.ds = σ.ds := by
        rw [ht'.ip.room.2.1, ht.ip.room.2.1, his]
      refine Br_f ?_
      refine nn_r (add_r (ld_r hs (.head _) rfl ?_))
      refine pages_Pages hs hW' (.cons .here) ht'.hlen fun vn ln Hn w hln hon hs => ?_
      have hl2 : ln = lp := hln.uniq hlp fun a => by rw [hpg]
      subst hl2
      refine (hon.rd (H := Hn) fun q hq => hq).len ln.length (by simp) (by decide) ?_
      refine (hrp (Y := Hp) fun q hq => hq).len ln.length (by simp) (by decide) (bin_neq ?_)
      rw [show ((ln.length : Int) != ln.length) = false by simp]
      refine Br_f ?_
      refine nn_r (add_r (ld_r hs (List.mem_append_right _ (.head _)) rfl ?_))
      refine wld_Free hs hW' (.app (.cons .here)) fun w hs => bin_neq ?_
      rw [hds, show (freeSum σ.ds != freeSum σ.ds) = false by simp]
      refine Br_f ?_
      refine (hon.rd (H := Hn) fun q hq => hq).len ln.length (by simp) (by decide) ?_
      refine loop_r (fun cc vs w => ∃ m : Nat, m ≤ ln.length ∧ vs = [int m] ∧ cc = ln.length - m ∧ Sat (Hv ++ G) w (Hn ++ ((bt, row 33 (tcells sb b r' lv')) :: (Hb' ++ (HL' ++ ((b9, row 35 (op4 ops[j])) :: (Hq ++ (Hp ++ H)))))))) ln.length ⟨0, by omega, rfl, rfl, hs⟩ ?_
      clear hs
      rintro J cc vs w next4 ⟨m, hm, rfl, rfl, hs⟩ hnext4
      refine bin_lss (Br_d (fun hc => ?_) (fun hc => ?_))
      · have hm' : m < ln.length := by
          have : (m : Int) < ln.length := hc
          omega
        have hrn : Rd 1 vn (ln.map int) (Hn ++ ((bt, row 33 (tcells sb b r' lv')) :: (Hb' ++ (HL' ++ ((b9, row 35 (op4 ops[j])) :: (Hq ++ (Hp ++ H))))))) := hon.rd fun q hq => by simp [hq]
        have hrw : Rd 1 vp (ln.flatMap fun a => [int a]) (Hn ++ ((bt, row 33 (tcells sb b r' lv')) :: (Hb' ++ (HL' ++ ((b9, row 35 (op4 ops[j])) :: (Hq ++ (Hp ++ H))))))) := by
          rw [← map_flat]; exact hrp fun q hq => by simp [hq]
        have hrc : Rd 1 v' (ln.flatMap fun a => [int (holdsOf σ a)]) (Hn ++ ((bt, row 33 (tcells sb b r' lv')) :: (Hb' ++ (HL' ++ ((b9, row 35 (op4 ops[j])) :: (Hq ++ (Hp ++ H))))))) := by
          rw [← map_flat]; exact hoq.rd fun q hq => by simp [hq]
        refine hrn.ld1 hs hm' ?_
        refine drawS_r (fun w => Sat (Hv ++ G) w (Hn ++ ((bt, row 33 (tcells sb b r' lv')) :: (Hb' ++ (HL' ++ ((b9, row 35 (op4 ops[j])) :: (Hq ++ (Hp ++ H)))))))) hs fun w hs => ?_
        refine hrw.idx (fun _ _ => rfl) (by decide) hm' fun b1 o1 l1 => ?_
        refine l1.held1 (i := 0) hs rfl (bin_neq ?_)
        rw [show (ln[m] != ln[m]) = false by simp]
        refine Br_f (nn_r (add_r ?_))
        refine hrc.idx (fun _ _ => rfl) (by decide) hm' fun b2 o2 l2 => ?_
        refine held_ld hs (List.mem_append_right _ (.head _)) rfl (l2.held1 (i := 0) hs rfl ?_)
        refine pages_Holds hs hW' (.app (.cons .here)) ?_
        refine ⟨hs, bin_neq ?_⟩
        show Br (.bool (holdsOf σ' ln[m] != holdsOf σ ln[m])) _ _
        have e : holdsOf σ' ln[m] = holdsOf σ ln[m] := by unfold holdsOf; rw [hpg]
        rw [e, show (holdsOf σ ln[m] != holdsOf σ ln[m]) = false by simp]
        exact Br_f (bin_add (by omega) (by omega) (hnext4 (ln.length - (m + 1)) _ _ (by omega) ⟨m + 1, by omega, rfl, rfl, hs⟩))
      · exact bin_add (by omega) (by omega) (fin w hs.drop)
  · refine law_awake hTab' hs fun w hs => ?_
    exact hk w ((thaw hs).perm (H' := ((bt, row 33 (tcells sb b r lv)) :: (Hb ++ HL)) ++ H) (by refine perm_of_cnt fun a => ?_; simp only [cnt_app, cnt_cons, cnt_nil] at *; omega)).drop
end
end Go.Proofs.YtemenmmekddjaaaGreatDoor
end
