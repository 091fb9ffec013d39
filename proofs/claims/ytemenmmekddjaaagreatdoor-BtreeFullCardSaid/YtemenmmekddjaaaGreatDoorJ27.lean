/- What the functions of package space do: what lies in memory. No condition. What the functions of package space do: giving and taking. No condition. What the functions of package space do: the free ones, and taking one. No condition. What the functions of package space do: making one, and other devices. No condition. What the functions of package space do: other devices, and a new space. No condition. What space.New does. No condition. -/
import Derived.Test.YtemenmmekddjaaaGreatDoorJ11
import Derived.Test.YtemenmmekddjaaaGreatDoorJ25
import Derived.Test.YtemenmmekddjaaaGreatDoorJ26
set_option linter.all false
set_option linter.unusedVariables false
set_option linter.unusedSimpArgs false
set_option linter.unnecessarySimpa false
set_option linter.unusedSectionVars false
set_option linter.constructorNameAsVariable false
section
namespace Go.Proofs.YtemenmmekddjaaaGreatDoor
open Go Go.Wx Go.W
variable {ω : Go.W.Origin}
def Dev.ent (d : Dev) : Ent := (d.state, (d.size : Int))
inductive Shf (b : Nat) (d : Dev) : List Blk → Prop
  | mk {b1 b2 b3 : Nat} {H1 H2 H3 : List Blk} (h1 : Bm b1 d.size d.tk H1) (h2 : Bm b2 d.size d.fr H2) (h3 : Bm b3 d.size d.gv H3) : Shf b d ((b, row 173 [ptr b1, ptr b2, ptr b3]) :: (H1 ++ (H2 ++ H3)))
inductive Shfs : List Nat → List Dev → List Blk → Prop
  | nil : Shfs [] [] []
  | cons {b : Nat} {bs : List Nat} {d : Dev} {ds : List Dev} {Hd Hs : List Blk} (h : Shf b d Hd) (t : Shfs bs ds Hs) : Shfs (b :: bs) (d :: ds) (Hd ++ Hs)
theorem Shfs.length {bs : List Nat} {ds : List Dev} {Hs : List Blk} (h : Shfs bs ds Hs) : bs.length = ds.length := by
  induction h with
  | nil => rfl
  | cons _ _ ih => simp [ih]
theorem Shfs.at {bs : List Nat} {ds : List Dev} {Hs : List Blk} (h : Shfs bs ds Hs) : ∀ (i : Nat) (hi : i < ds.length) (hb : i < bs.length), ∃ Hd Hr, Shf bs[i] ds[i] Hd ∧ Hs.Perm (Hd ++ Hr) ∧
    ∀ d' Hd', Shf bs[i] d' Hd' → ∃ Hs', Shfs bs (ds.set i d') Hs' ∧ (Hd' ++ Hr).Perm Hs' := by
  induction h with
  | nil => intro i hi; simp at hi
  | @cons b bs d ds Hd Hs h t ih =>
    intro i hi hb
    cases i with
    | zero => exact ⟨Hd, Hs, h, .refl _, fun d' Hd' h' => ⟨_, .cons h' t, .refl _⟩⟩
    | succ i =>
      obtain ⟨Hd2, Hr, h1, h2, h3⟩ := ih i (by simpa using hi) (by simpa using hb)
      refine ⟨Hd2, Hd ++ Hr, h1, (by refine perm_of_cnt fun a => ?_; have q0 := cnt_perm h2 a; simp only [cnt_app, cnt_cons, cnt_nil] at *; omega), fun d' Hd' h' => ?_⟩
      obtain ⟨Hs', h4, h5⟩ := h3 d' Hd' h'
      exact ⟨_, .cons h h4, (by refine perm_of_cnt fun a => ?_; have q0 := cnt_perm h5 a; simp only [cnt_app, cnt_cons, cnt_nil] at *; omega)⟩
theorem Shfs.append {bs : List Nat} {ds : List Dev} {Hs : List Blk} (h : Shfs bs ds Hs) {b : Nat} {d : Dev} {Hd : List Blk} (h' : Shf b d Hd) : ∃ Hs', Shfs (bs ++ [b]) (ds ++ [d]) Hs' ∧ (Hd ++ Hs).Perm Hs' := by
  induction h with
  | nil => exact ⟨_, .cons h' .nil, by simp⟩
  | cons h t ih =>
    obtain ⟨Hs', h1, h2⟩ := ih
    exact ⟨_, .cons h h1, (by refine perm_of_cnt fun a => ?_; have q0 := cnt_perm h2 a; simp only [cnt_app, cnt_cons, cnt_nil] at *; omega)⟩
/-- all that changes. -/
inductive Stt (G : List Blk) (b : Nat) (ds : List Dev) : List Blk → Prop
  | mk {vr vs : Value} {bs : List Nat} {H1 H2 : List Blk} (hr : Rd 2 vr ((ds.map Dev.ent).flatMap ent) G) (ho : Own 161 1 vs (bs.map ptr) H1) (hs : Shfs bs ds H2) (hok : rosOk (ds.map Dev.ent) = true) :
      Stt G b ds ((b, row 129 [vr, vs]) :: (H1 ++ H2))
/-- a space, and what there was at Begin. -/
inductive Spc (G : List Blk) (b : Nat) (ds : List Dev) : Option (List Dev) → List Blk → Prop
  | still {bs : Nat} {H1 : List Blk} (h : Stt G bs ds H1) : Spc G b ds none ((b, row 126 [ptr bs, .pointer none]) :: H1)
  | begun {bs bw : Nat} {H1 H2 : List Blk} {was : List Dev} (h : Stt G bs ds H1) (h2 : Stt G bw was H2) : Spc G b ds (some was) ((b, row 126 [ptr bs, ptr bw]) :: (H1 ++ H2))
section
variable {G H R Hb Hd : List Blk} {w : World} {k : K} {b : Nat} {d : Dev} {ds : List Dev} {was : Option (List Dev)}
theorem space_member {e : Ent} (hs : Sat G w H) (hk : ∀ w', Sat G w' H → k (.bool (e.1 != 3)) w') : call Tryz.prog w 140 [.agg (ent e).toArray] k := by
  refine b_space_member_walk ?_
  unfold b_space_member
  refine boxA_r (cs := ent e) hs fun b w hs => ?_
  (repeat (first | refine nn_r ?_ | refine add_r ?_ | refine ld_r (by assumption) (by repeat (first | exact List.Mem.head _ | apply List.Mem.tail | apply List.mem_append_right)) rfl ?_ | refine ldG_r (by assumption) (by repeat (first | exact List.Mem.head _ | apply List.Mem.tail | apply List.mem_append_right)) rfl ?_ | refine tup_r rfl ?_ | refine len_r ?_ | refine cap_r ?_ | refine draw_r (by assumption) fun w hs => ?_ | refine drawS_r (fun w => Sat _ w _) (by assumption) fun w hs => ?_ | refine held_ld (by assumption) (by repeat (first | exact List.Mem.head _ | apply List.Mem.tail | apply List.mem_append_right)) rfl ?_))
  refine bin_neq ?_
  exact hk _ hs.tail
theorem space_Addr {i j : Int} (h0 : 0 ≤ i) (h1 : i < 8) (h2 : 0 ≤ j) (h3 : j < 4096) (hk : k (int (i * 4096 + j)) w) : call Tryz.prog w 99 [int i, int j] k := by
  refine b_space_Addr_walk ?_
  unfold b_space_Addr
  refine bin_lss (Br_d (fun h => by omega) (fun _ => ?_))
  refine bin_geq (Br_d (fun h => by omega) (fun _ => ?_))
  refine bin_lss (Br_d (fun h => by omega) (fun _ => ?_))
  refine bin_geq (Br_d (fun h => by omega) (fun _ => ?_))
  refine bin_mul (by omega) (by omega) ?_
  refine bin_add (by omega) (by omega) ?_
  exact hk
theorem space_At {a : Int} (hk : k (.tuple #[int (atOf a).1, int (atOf a).2]) w) : call Tryz.prog w 30 [int a] k := by
  refine b_space_At_walk ?_
  unfold b_space_At
  unfold atOf at hk
  refine bin_lss (Br_d (fun h => ?_) (fun h1 => ?_))
  · rw [if_neg (by omega)] at hk; exact hk
  refine bin_geq (Br_d (fun h => ?_) (fun h2 => ?_))
  · rw [if_neg (by omega)] at hk; exact hk
  rw [if_pos (by omega)] at hk
  refine bin_quo (by omega) (by omega) (by omega) ?_
  refine bin_rem (by omega) (by omega) ?_
  exact hk
theorem space_used (hs : Sat G w H) (h : Shf b d Hd) (hsel : Sel Hd H R) (hk : ∀ w', Sat G w' H → k (int d.used) w') : call Tryz.prog w 120 [ptr b] k := by
  refine b_space_shelf_used_walk ?_
  unfold b_space_shelf_used
  have hp := hsel.perm
  cases h with
  | @mk b1 b2 b3 H1 H2 H3 h1 h2 h3 =>
  have hs := hs.sel hsel
  refine drawS_r (fun w => Sat G w (((b, row 173 [ptr b1, ptr b2, ptr b3]) :: (H1 ++ (H2 ++ H3))) ++ R)) hs fun w hs => ?_
  (repeat (first | refine nn_r ?_ | refine add_r ?_ | refine ld_r (by assumption) (by repeat (first | exact List.Mem.head _ | apply List.Mem.tail | apply List.mem_append_right)) rfl ?_ | refine ldG_r (by assumption) (by repeat (first | exact List.Mem.head _ | apply List.Mem.tail | apply List.mem_append_right)) rfl ?_ | refine tup_r rfl ?_ | refine len_r ?_ | refine cap_r ?_ | refine draw_r (by assumption) fun w hs => ?_ | refine drawS_r (fun w => Sat _ w _) (by assumption) fun w hs => ?_ | refine held_ld (by assumption) (by repeat (first | exact List.Mem.head _ | apply List.Mem.tail | apply List.mem_append_right)) rfl ?_))
  have m1 := h1.most
  have l1 := bitsIn_le d.size d.tk
  have l2 := bitsIn_le d.size d.gv
  refine bitmap_Count (R := (b, row 173 [ptr b1, ptr b2, ptr b3]) :: (H2 ++ (H3 ++ R))) (hs.perm (H' := H1 ++ _) (by refine perm_of_cnt fun a => ?_; simp only [cnt_app, cnt_cons, cnt_nil] at *; omega)) h1 .here ?_
  refine ⟨hs, ?_⟩
  refine bitmap_Count (R := (b, row 173 [ptr b1, ptr b2, ptr b3]) :: (H1 ++ (H2 ++ R))) (hs.perm (H' := H3 ++ _) (by refine perm_of_cnt fun a => ?_; simp only [cnt_app, cnt_cons, cnt_nil] at *; omega)) h3 .here ?_
  refine bin_add (by omega) (by omega) ?_
  have := hk w (hs.perm hp.symm)
  unfold Dev.used at this
  exact_mod_cast this
theorem Spc.open (h : Spc G b ds was Hb) : ∃ bs wv H1 H2, Stt G bs ds H1 ∧ Hb = (b, row 126 [ptr bs, wv]) :: (H1 ++ H2) ∧ ∀ ds' H1', Stt G bs ds' H1' → Spc G b ds' was ((b, row 126 [ptr bs, wv]) :: (H1' ++ H2)) := by
  cases h with
  | @still bs H1 h => exact ⟨bs, .pointer none, H1, [], h, by simp, fun ds' H1' h' => by simpa using Spc.still h'⟩
  | @begun bs bw H1 H2 was h h2 => exact ⟨bs, ptr bw, H1, H2, h, rfl, fun ds' H1' h' => .begun h' h2⟩
theorem space_free {i : Nat} (hs : Sat G w H) (h : Spc G b ds was Hb) (hsel : Sel Hb H R) (hi : i < ds.length) (hk : ∀ w', Sat G w' H → k (int ds[i].free) w') : call Tryz.prog w 66 [ptr b, int i] k := by
  refine b_space_Space_free_walk ?_
  unfold b_space_Space_free
  have hp := hsel.perm
  have hs := hs.sel hsel
  obtain ⟨bs, wv, H1, H2, hst, rfl, -⟩ := h.open
  cases hst with
  | @mk vr vs sh Ha Hc hr ho hsh hok =>
  have hsl := hsh.length
  refine drawS_r (fun w => Sat G w ((b, row 126 [ptr bs, wv]) :: ((bs, row 129 [vr, vs]) :: (Ha ++ Hc) ++ H2) ++ R)) hs fun w hs => ?_
  (repeat (first | refine nn_r ?_ | refine add_r ?_ | refine ld_r (by assumption) (by repeat (first | exact List.Mem.head _ | apply List.Mem.tail | apply List.mem_append_right)) rfl ?_ | refine ldG_r (by assumption) (by repeat (first | exact List.Mem.head _ | apply List.Mem.tail | apply List.mem_append_right)) rfl ?_ | refine tup_r rfl ?_ | refine len_r ?_ | refine cap_r ?_ | refine draw_r (by assumption) fun w hs => ?_ | refine drawS_r (fun w => Sat _ w _) (by assumption) fun w hs => ?_ | refine held_ld (by assumption) (by repeat (first | exact List.Mem.head _ | apply List.Mem.tail | apply List.mem_append_right)) rfl ?_))
  have hl : i < (ds.map Dev.ent).length := by simpa using hi
  refine hr.idx (fun _ _ => rfl) (by decide) hl fun b1 o1 h1 => ?_
  (repeat (first | refine nn_r ?_ | refine add_r ?_ | refine ld_r (by assumption) (by repeat (first | exact List.Mem.head _ | apply List.Mem.tail | apply List.mem_append_right)) rfl ?_ | refine ldG_r (by assumption) (by repeat (first | exact List.Mem.head _ | apply List.Mem.tail | apply List.mem_append_right)) rfl ?_ | refine tup_r rfl ?_ | refine len_r ?_ | refine cap_r ?_ | refine draw_r (by assumption) fun w hs => ?_ | refine drawS_r (fun w => Sat _ w _) (by assumption) fun w hs => ?_ | refine held_ld (by assumption) (by repeat (first | exact List.Mem.head _ | apply List.Mem.tail | apply List.mem_append_right)) rfl ?_))
  refine h1.heldG hs rfl ?_
  simp only [List.getElem_map, Dev.ent]
  obtain ⟨Hd, Hr, h4, h5, _⟩ := hsh.at i hi (by omega)
  have h2 : (ds[i].size : Int) ≤ 4096 := by
    cases h4 with
    | mk q _ _ => have := q.most; omega
  refine bin_sub (by omega) (by omega) ?_
  (repeat (first | refine nn_r ?_ | refine add_r ?_ | refine ld_r (by assumption) (by repeat (first | exact List.Mem.head _ | apply List.Mem.tail | apply List.mem_append_right)) rfl ?_ | refine ldG_r (by assumption) (by repeat (first | exact List.Mem.head _ | apply List.Mem.tail | apply List.mem_append_right)) rfl ?_ | refine tup_r rfl ?_ | refine len_r ?_ | refine cap_r ?_ | refine draw_r (by assumption) fun w hs => ?_ | refine drawS_r (fun w => Sat _ w _) (by assumption) fun w hs => ?_ | refine held_ld (by assumption) (by repeat (first | exact List.Mem.head _ | apply List.Mem.tail | apply List.mem_append_right)) rfl ?_))
  have hrd : Rd 1 vs (sh.map ptr) ((b, row 126 [ptr bs, wv]) :: ((bs, row 129 [vr, vs]) :: (Ha ++ Hc) ++ H2) ++ R) := ho.rd fun p hp => by simp [hp]
  rw [map_flat] at hrd
  refine hrd.idx (fun _ _ => rfl) (by decide) (show i < sh.length by omega) fun b2 o2 h3 => ?_
  refine h3.held1 (i := 0) hs rfl ?_
  refine space_used (R := (b, row 126 [ptr bs, wv]) :: ((bs, row 129 [vr, vs]) :: (Ha ++ Hr) ++ H2) ++ R) (hs.perm (H' := Hd ++ _) (by refine perm_of_cnt fun a => ?_; have q0 := cnt_perm h5 a; simp only [cnt_app, cnt_cons, cnt_nil] at *; omega)) h4 .here fun w hs => ?_
  have hs := hs.perm (H' := (b, row 126 [ptr bs, wv]) :: ((bs, row 129 [vr, vs]) :: (Ha ++ Hc) ++ H2) ++ R) (by refine perm_of_cnt fun a => ?_; have q0 := cnt_perm h5 a; simp only [cnt_app, cnt_cons, cnt_nil] at *; omega)
  refine ⟨hs, ?_⟩
  have hu : ds[i].used ≤ 8192 := by
    have l1 := bitsIn_le ds[i].size ds[i].tk
    have l2 := bitsIn_le ds[i].size ds[i].gv
    unfold Dev.used; omega
  refine bin_sub (by omega) (by omega) ?_
  exact hk w (hs.perm hp.symm)
theorem space_find {a : Int} {bs : Nat} {wv vr vs : Value} {sh : List Nat} (hs : Sat G w H) (hb : (b, row 126 [ptr bs, wv]) ∈ H) (hst : (bs, row 129 [vr, vs]) ∈ H)
    (hr : Rd 2 vr ((ds.map Dev.ent).flatMap ent) G) (hrd : Rd 1 vs (sh.map ptr) H) (hl : sh.length = ds.length)
    (hk : ∀ w', Sat G w' H → k (match inRoom ds a with
      | some (i, j) => .tuple #[ptr (sh.getD i 0), int j]
      | none => .tuple #[.pointer none, int 0]) w') : call Tryz.prog w 186 [ptr b, int a] k := by
  refine b_space_Space_find_walk ?_
  unfold b_space_Space_find
  refine space_At ?_
  refine tup_r rfl (tup_r rfl ?_)
  have hge := atOf_ge a
  unfold inRoom at hk
  generalize (atOf a).1 = i at *
  generalize (atOf a).2 = j at *
  refine bin_lss (Br_d (fun h => ?_) (fun h => ?_))
  · rw [if_neg (by omega)] at hk; exact hk _ hs
  rw [if_pos (by omega)] at hk
  obtain ⟨i, rfl⟩ : ∃ n : Nat, i = n := ⟨i.toNat, by omega⟩
  rw [Int.toNat_natCast] at hk
  refine nn_r (add_r (ld_r hs hb rfl (nn_r (add_r (add_r (ld_r hs hst rfl ?_))))))
  refine hr.len ds.length (by rw [flat_len (size := 2) fun _ _ => rfl, List.length_map]) (by decide) ?_
  refine bin_geq (Br_d (fun h => ?_) (fun h => ?_))
  · rw [List.getElem?_eq_none (by omega)] at hk; exact hk _ hs
  have hi : i < ds.length := by omega
  rw [List.getElem?_eq_getElem hi] at hk
  dsimp only at hk
  have hl2 : i < (ds.map Dev.ent).length := by simpa using hi
  refine nn_r (add_r (ld_r hs hb rfl (nn_r (add_r (add_r (ld_r hs hst rfl ?_))))))
  refine (hr.left (H := H)).ldN hs.whole (fun _ _ => rfl) (by decide) hl2 ?_
  refine space_member hs fun w hs => ?_
  rw [List.getElem_map]
  refine un_not (Br_r (fun h => ?_) (fun h => ?_))
  · have : ds[i].state = 3 := by simpa [Dev.ent] using h
    rw [if_neg (by simp [this])] at hk; exact hk _ hs
  have h3 : ds[i].state ≠ 3 := by simpa [Dev.ent] using h
  refine bin_lss (Br_d (fun h => ?_) (fun h4 => ?_))
  · rw [if_neg (by omega)] at hk; exact hk _ hs
  refine nn_r (add_r (ld_r hs hb rfl (nn_r (add_r (add_r (ld_r hs hst rfl ?_))))))
  refine hr.idx (fun _ _ => rfl) (by decide) hl2 fun b1 o1 h1 => ?_
  refine add_r (h1.ldG hs rfl ?_)
  simp only [List.getElem_map, Dev.ent]
  refine bin_geq (Br_d (fun h => ?_) (fun h5 => ?_))
  · rw [if_neg (by omega)] at hk; exact hk _ hs
  rw [if_pos (by omega)] at hk
  refine nn_r (add_r (ld_r hs hb rfl (nn_r (add_r (ld_r hs hst rfl ?_)))))
  have hi2 : i < sh.length := by omega
  refine hrd.ld1 hs hi2 ?_
  have := hk _ hs
  simp only [List.getD, List.getElem?_eq_getElem hi2, Option.getD_some] at this
  rw [Int.toNat_of_nonneg (by omega)] at this
  exact this
theorem space_elder {a : Int} (hs : Sat G w H) (h : Spc G b ds was Hb) (hsel : Sel Hb H R) (ha : 0 ≤ a ∧ a < 32768)
    (hk : ∀ w', Sat G w' H → k (.bool (elderAt was (a / 4096).toNat (a % 4096).toNat)) w') : call Tryz.prog w 198 [ptr b, int a] k := by
  refine b_space_Space_elder_walk ?_
  unfold b_space_Space_elder
  have hp := hsel.perm
  have hs := hs.sel hsel
  refine space_At ?_
  have hat : atOf a = (a / 4096, a % 4096) := by unfold atOf; rw [if_pos ha]
  rw [hat]
  refine tup_r rfl (tup_r rfl ?_)
  cases h with
  | @still bs H1 hst =>
    (repeat (first | refine nn_r ?_ | refine add_r ?_ | refine ld_r (by assumption) (by repeat (first | exact List.Mem.head _ | apply List.Mem.tail | apply List.mem_append_right)) rfl ?_ | refine ldG_r (by assumption) (by repeat (first | exact List.Mem.head _ | apply List.Mem.tail | apply List.mem_append_right)) rfl ?_ | refine tup_r rfl ?_ | refine len_r ?_ | refine cap_r ?_ | refine draw_r (by assumption) fun w hs => ?_ | refine drawS_r (fun w => Sat _ w _) (by assumption) fun w hs => ?_ | refine held_ld (by assumption) (by repeat (first | exact List.Mem.head _ | apply List.Mem.tail | apply List.mem_append_right)) rfl ?_))
    exact eq_pn (Br_t (hk _ (hs.perm hp.symm)))
  | @begun bs bw H1 H2 ws hst h2 =>
    (repeat (first | refine nn_r ?_ | refine add_r ?_ | refine ld_r (by assumption) (by repeat (first | exact List.Mem.head _ | apply List.Mem.tail | apply List.mem_append_right)) rfl ?_ | refine ldG_r (by assumption) (by repeat (first | exact List.Mem.head _ | apply List.Mem.tail | apply List.mem_append_right)) rfl ?_ | refine tup_r rfl ?_ | refine len_r ?_ | refine cap_r ?_ | refine draw_r (by assumption) fun w hs => ?_ | refine drawS_r (fun w => Sat _ w _) (by assumption) fun w hs => ?_ | refine held_ld (by assumption) (by repeat (first | exact List.Mem.head _ | apply List.Mem.tail | apply List.mem_append_right)) rfl ?_))
    refine eq_pn (Br_f ?_)
    cases h2 with
    | @mk vr vs sh Ha Hc hr ho hsh hok =>
    have hm : (bw, row 129 [vr, vs]) ∈ (b, row 126 [ptr bs, ptr bw]) :: (H1 ++ ((bw, row 129 [vr, vs]) :: (Ha ++ Hc))) ++ R := by simp
    (repeat (first | refine nn_r ?_ | refine add_r ?_ | refine ld_r (by assumption) (by repeat (first | exact List.Mem.head _ | apply List.Mem.tail | apply List.mem_append_right)) rfl ?_ | refine ldG_r (by assumption) (by repeat (first | exact List.Mem.head _ | apply List.Mem.tail | apply List.mem_append_right)) rfl ?_ | refine tup_r rfl ?_ | refine len_r ?_ | refine cap_r ?_ | refine draw_r (by assumption) fun w hs => ?_ | refine drawS_r (fun w => Sat _ w _) (by assumption) fun w hs => ?_ | refine held_ld (by assumption) (by repeat (first | exact List.Mem.head _ | apply List.Mem.tail | apply List.mem_append_right)) rfl ?_))
    refine ld_r hs hm rfl ?_
    have hrd : Rd 1 vs (sh.map ptr) ((b, row 126 [ptr bs, ptr bw]) :: (H1 ++ ((bw, row 129 [vr, vs]) :: (Ha ++ Hc))) ++ R) := ho.rd fun p hp => by simp [hp]
    refine hrd.len sh.length (by simp) (by decide) ?_
    have hsl := hsh.length
    have e0 : (a / 4096) = ((a / 4096).toNat : Nat) := by omega
    rw [e0] at hk ⊢
    rw [Int.toNat_natCast] at hk
    generalize (a / 4096).toNat = i at *
    refine bin_geq (Br_d (fun h => ?_) (fun h => ?_))
    · dsimp only at h
      unfold elderAt at hk
      dsimp only at hk
      rw [List.getElem?_eq_none (by omega)] at hk
      exact hk _ (hs.perm hp.symm)
    dsimp only at h
    have hi : i < ws.length := by omega
    have hi2 : i < sh.length := by omega
    unfold elderAt at hk
    simp only [List.getElem?_eq_getElem hi] at hk
    (repeat (first | refine nn_r ?_ | refine add_r ?_ | refine ld_r (by assumption) (by repeat (first | exact List.Mem.head _ | apply List.Mem.tail | apply List.mem_append_right)) rfl ?_ | refine ldG_r (by assumption) (by repeat (first | exact List.Mem.head _ | apply List.Mem.tail | apply List.mem_append_right)) rfl ?_ | refine tup_r rfl ?_ | refine len_r ?_ | refine cap_r ?_ | refine draw_r (by assumption) fun w hs => ?_ | refine drawS_r (fun w => Sat _ w _) (by assumption) fun w hs => ?_ | refine held_ld (by assumption) (by repeat (first | exact List.Mem.head _ | apply List.Mem.tail | apply List.mem_append_right)) rfl ?_))
    refine ld_r hs hm rfl ?_
    refine hrd.ld1 hs hi2 ?_
    obtain ⟨Hd, Hr, h4, h5, _⟩ := hsh.at i hi hi2
    cases h4 with
    | @mk b1 b2 b3 K1 K2 K3 q1 q2 q3 =>
    have hs := hs.perm (H' := (sh[i], row 173 [ptr b1, ptr b2, ptr b3]) :: (K1 ++ (K2 ++ (K3 ++ ((b, row 126 [ptr bs, ptr bw]) :: (H1 ++ ((bw, row 129 [vr, vs]) :: (Ha ++ Hr))) ++ R))))) (by refine perm_of_cnt fun a => ?_; have q0 := cnt_perm h5 a; simp only [cnt_app, cnt_cons, cnt_nil] at *; omega)
    (repeat (first | refine nn_r ?_ | refine add_r ?_ | refine ld_r (by assumption) (by repeat (first | exact List.Mem.head _ | apply List.Mem.tail | apply List.mem_append_right)) rfl ?_ | refine ldG_r (by assumption) (by repeat (first | exact List.Mem.head _ | apply List.Mem.tail | apply List.mem_append_right)) rfl ?_ | refine tup_r rfl ?_ | refine len_r ?_ | refine cap_r ?_ | refine draw_r (by assumption) fun w hs => ?_ | refine drawS_r (fun w => Sat _ w _) (by assumption) fun w hs => ?_ | refine held_ld (by assumption) (by repeat (first | exact List.Mem.head _ | apply List.Mem.tail | apply List.mem_append_right)) rfl ?_))
    refine bitmap_Has hs q1 (.cons .here) ?_
    rw [show decide (0 ≤ a % 4096) = true by simp; omega, Bool.true_and]
    refine Br_r (fun ht => ?_) (fun ht => ?_)
    · (repeat (first | refine nn_r ?_ | refine add_r ?_ | refine ld_r (by assumption) (by repeat (first | exact List.Mem.head _ | apply List.Mem.tail | apply List.mem_append_right)) rfl ?_ | refine ldG_r (by assumption) (by repeat (first | exact List.Mem.head _ | apply List.Mem.tail | apply List.mem_append_right)) rfl ?_ | refine tup_r rfl ?_ | refine len_r ?_ | refine cap_r ?_ | refine draw_r (by assumption) fun w hs => ?_ | refine drawS_r (fun w => Sat _ w _) (by assumption) fun w hs => ?_ | refine held_ld (by assumption) (by repeat (first | exact List.Mem.head _ | apply List.Mem.tail | apply List.mem_append_right)) rfl ?_))
      refine bitmap_Has hs q2 (.cons (.app .here)) ?_
      rw [show decide (0 ≤ a % 4096) = true by simp; omega, Bool.true_and]
      rw [ht, Bool.true_and] at hk
      exact hk _ (hs.perm (by refine .trans ?_ hp.symm; exact (by refine perm_of_cnt fun a => ?_; have q0 := cnt_perm h5 a; simp only [cnt_app, cnt_cons, cnt_nil] at *; omega)))
    · rw [ht, Bool.false_and] at hk
      exact hk _ (hs.perm (by refine .trans ?_ hp.symm; exact (by refine perm_of_cnt fun a => ?_; have q0 := cnt_perm h5 a; simp only [cnt_app, cnt_cons, cnt_nil] at *; omega)))
end
end Go.Proofs.YtemenmmekddjaaaGreatDoor
end
section
namespace Go.Proofs.YtemenmmekddjaaaGreatDoor
open Go Go.Wx Go.W
variable {ω : Go.W.Origin}
section
variable {G H R Hb Hd : List Blk} {w : World} {k : K} {b n : Nat} {f : Nat → Bool} {d : Dev} {ds : List Dev} {was : Option (List Dev)}
theorem bits_Set {j : Nat} (hs : Sat G w H) (hb : Bm b n f Hb) (hsel : Sel Hb H R) (hj : j < n) (hk : ∀ Hb' w', Bm b n (on f j) Hb' → Sat G w' (Hb' ++ R) → k .nilIface w') :
    bldS w 3 1 1 [.int .i64 0] [(0, int j)] fun t w => call Tryz.prog w 196 [ptr b, t] k := by
  refine bldS_r (cs := [int j]) hs rfl (by decide) fun b' w hs => ?_
  refine bitmap_Set (i := j) hs hb (.cons hsel) (.some rfl rfl ⟨3, [int j], .of (.head _), fun x y h => by simpa using h⟩) (by omega) (by omega) fun Hb' w hb' hs => ?_
  exact hk Hb' w (hb'.swap fun x => by
    have e : decide ((x : Int) = (j : Int)) = decide (x = j) := decide_eq_decide.2 (by omega)
    simp only [on, e]) ((hs.perm List.perm_middle).tail)
theorem bits_Clear {j : Nat} (hs : Sat G w H) (hb : Bm b n f Hb) (hsel : Sel Hb H R) (hj : j < n) (hk : ∀ Hb' w', Bm b n (off f j) Hb' → Sat G w' (Hb' ++ R) → k .nilIface w') :
    bldS w 3 1 1 [.int .i64 0] [(0, int j)] fun t w => call Tryz.prog w 113 [ptr b, t] k := by
  refine bldS_r (cs := [int j]) hs rfl (by decide) fun b' w hs => ?_
  refine bitmap_Clear (i := j) hs hb (.cons hsel) (.some rfl rfl ⟨3, [int j], .of (.head _), fun x y h => by simpa using h⟩) (by omega) (by omega) fun Hb' w hb' hs => ?_
  exact hk Hb' w (hb'.swap fun x => by
    have e : decide ((x : Int) = (j : Int)) = decide (x = j) := decide_eq_decide.2 (by omega)
    simp only [off, e]) ((hs.perm List.perm_middle).tail)
theorem Stt.ok {G : List Blk} {b : Nat} {ds : List Dev} {Hb : List Blk} (h : Stt G b ds Hb) : rosOk (ds.map Dev.ent) = true := by cases h with | mk _ _ _ hok => exact hok
theorem space_Give {a : Int} {i j : Nat} (hs : Sat G w H) (h : Spc G b ds was Hb) (hsel : Sel Hb H R) (ha : inRoom ds a = some (i, j)) (hi : i < ds.length) (htk : ds[i].tk j = true)
    (hk : ∀ Hb' w', Spc G b (ds.set i (ds[i].give (elderAt was i j) j)) was Hb' → Sat G w' (Hb' ++ R) → k .nilIface w') : call Tryz.prog w 160 [ptr b, int a] k := by
  refine b_space_Space_Give_walk ?_
  unfold b_space_Space_Give
  obtain ⟨_, ea, h2, hlt, hst3, ha0, ha1, ei, ej⟩ := inRoom_some ha
  have hs := hs.sel hsel
  obtain ⟨bs, wv, H1, H2, hst, rfl, hback⟩ := h.open
  cases hst with
  | @mk vr vs sh Ha Hc hr ho hsh hok =>
  have hsl := hsh.length
  have hrd : ∀ X, Rd 1 vs (sh.map ptr) ((b, row 126 [ptr bs, wv]) :: ((bs, row 129 [vr, vs]) :: (Ha ++ X) ++ H2) ++ R) := fun X => ho.rd fun p hp => by simp [hp]
  refine space_find hs (.head _) (by simp) hr (hrd _) hsl fun w hs => ?_
  rw [ha]
  dsimp only
  have hi2 : i < sh.length := by omega
  have hg : sh.getD i 0 = sh[i] := by simp [List.getD, hi2]
  rw [hg]
  refine tup_r rfl (tup_r rfl (eq_pn (Br_f ?_)))
  obtain ⟨Hd, Hr, h4, h5, hset⟩ := hsh.at i hi hi2
  cases h4 with
  | @mk b1 b2 b3 K1 K2 K3 q1 q2 q3 =>
  have hs := hs.perm (H' := (sh[i], row 173 [ptr b1, ptr b2, ptr b3]) :: (K1 ++ (K2 ++ (K3 ++ ((b, row 126 [ptr bs, wv]) :: ((bs, row 129 [vr, vs]) :: (Ha ++ Hr) ++ H2) ++ R))))) (by refine perm_of_cnt fun a => ?_; have q0 := cnt_perm h5 a; simp only [cnt_app, cnt_cons, cnt_nil] at *; omega)
  refine nn_r (add_r (ld_r hs (.head _) rfl ?_))
  refine bitmap_Has hs q1 (.cons .here) ?_
  rw [Int.toNat_natCast, htk, show decide ((0 : Int) ≤ j) = true by simp]
  refine un_not (Br_f ?_)
  refine nn_r (add_r (ld_r hs (.head _) rfl ?_))
  refine bits_Clear hs q1 (.cons .here) hlt fun K1' w q1' hs => ?_
  have hs := hs.perm (H' := (sh[i], row 173 [ptr b1, ptr b2, ptr b3]) :: (K1' ++ (K2 ++ (K3 ++ ((b, row 126 [ptr bs, wv]) :: ((bs, row 129 [vr, vs]) :: (Ha ++ Hr) ++ H2) ++ R))))) (by refine perm_of_cnt fun a => ?_; simp only [cnt_app, cnt_cons, cnt_nil] at *; omega)
  refine nn_r (add_r (ld_r hs (.head _) rfl ?_))
  refine bitmap_Has hs q2 (.cons (.app .here)) ?_
  rw [Int.toNat_natCast, show decide ((0 : Int) ≤ j) = true by simp, Bool.true_and]
  have fin : ∀ (d' : Dev) (K1 K2 K3 : List Blk) (w : World), d' = ds[i].give (elderAt was i j) j → Bm b1 d'.size d'.tk K1 → Bm b2 d'.size d'.fr K2 → Bm b3 d'.size d'.gv K3 →
      Sat G w ((sh[i], row 173 [ptr b1, ptr b2, ptr b3]) :: (K1 ++ (K2 ++ (K3 ++ ((b, row 126 [ptr bs, wv]) :: ((bs, row 129 [vr, vs]) :: (Ha ++ Hr) ++ H2) ++ R))))) → k .nilIface w := by
    intro d' K1 K2 K3 w hd' p1 p2 p3 hs
    obtain ⟨Hs', h6, h7⟩ := hset d' _ (.mk p1 p2 p3)
    rw [hd'] at h6
    have hent : (ds.set i (ds[i].give (elderAt was i j) j)).map Dev.ent = ds.map Dev.ent := by
      rw [List.map_set]
      have : (ds[i].give (elderAt was i j) j).ent = (ds.map Dev.ent)[i]'(by simpa using hi) := by
        rw [List.getElem_map]; unfold Dev.give Dev.ent; split <;> rfl
      rw [this, List.set_getElem_self]
    refine hk _ w (hback _ _ (.mk (by rw [hent]; exact hr) ho h6 (by rw [hent]; exact hok))) (hs.perm (by refine perm_of_cnt fun a => ?_; have q0 := cnt_perm h7 a; simp only [cnt_app, cnt_cons, cnt_nil] at *; omega))
  refine Br_r (fun hf => ?_) (fun hf => ?_)
  · obtain ⟨Hs', h6, h7⟩ := hset { ds[i] with tk := off ds[i].tk j } _ (.mk q1' q2 q3)
    have hent : (ds.set i { ds[i] with tk := off ds[i].tk j }).map Dev.ent = ds.map Dev.ent := by
      rw [List.map_set]
      have : ({ ds[i] with tk := off ds[i].tk j } : Dev).ent = (ds.map Dev.ent)[i]'(by simpa using hi) := by
        rw [List.getElem_map]; rfl
      rw [this, List.set_getElem_self]
    have hsp := hback _ _ (.mk (by rw [hent]; exact hr) ho h6 (by rw [hent]; exact hok))
    have hs := hs.perm (H' := ((b, row 126 [ptr bs, wv]) :: ((bs, row 129 [vr, vs]) :: (Ha ++ Hs') ++ H2)) ++ R) (by refine perm_of_cnt fun a => ?_; have q0 := cnt_perm h7 a; simp only [cnt_app, cnt_cons, cnt_nil] at *; omega)
    refine space_elder hs hsp .here ⟨ha0, ha1⟩ fun w hs => ?_
    rw [ei, ej]
    have hs := hs.perm (H' := (sh[i], row 173 [ptr b1, ptr b2, ptr b3]) :: (K1' ++ (K2 ++ (K3 ++ ((b, row 126 [ptr bs, wv]) :: ((bs, row 129 [vr, vs]) :: (Ha ++ Hr) ++ H2) ++ R))))) (by refine perm_of_cnt fun a => ?_; have q0 := cnt_perm h7 a; simp only [cnt_app, cnt_cons, cnt_nil] at *; omega)
    refine un_not (Br_r (fun he => ?_) (fun he => ?_))
    · refine nn_r (add_r (ld_r hs (.head _) rfl ?_))
      refine bits_Clear hs q2 (.cons (.app .here)) hlt fun K2' w q2' hs => ?_
      exact fin { ds[i] with tk := off ds[i].tk j, fr := off ds[i].fr j } K1' K2' K3 w (by unfold Dev.give; rw [hf, he]; rfl) q1' q2' q3 (hs.perm (by refine perm_of_cnt fun a => ?_; simp only [cnt_app, cnt_cons, cnt_nil] at *; omega))
    · refine nn_r (add_r (ld_r hs (.head _) rfl ?_))
      refine bits_Set hs q3 (.cons (.app (.app .here))) hlt fun K3' w q3' hs => ?_
      exact fin { ds[i] with tk := off ds[i].tk j, gv := on ds[i].gv j } K1' K2 K3' w (by unfold Dev.give; rw [hf, he]; rfl) q1' q2 q3' (hs.perm (by refine perm_of_cnt fun a => ?_; simp only [cnt_app, cnt_cons, cnt_nil] at *; omega))
  · refine nn_r (add_r (ld_r hs (.head _) rfl ?_))
    refine bits_Set hs q3 (.cons (.app (.app .here))) hlt fun K3' w q3' hs => ?_
    exact fin { ds[i] with tk := off ds[i].tk j, gv := on ds[i].gv j } K1' K2 K3' w (by unfold Dev.give; rw [hf]; rfl) q1' q2 q3' (hs.perm (by refine perm_of_cnt fun a => ?_; simp only [cnt_app, cnt_cons, cnt_nil] at *; omega))
end
end Go.Proofs.YtemenmmekddjaaaGreatDoor
end
section
namespace Go.Proofs.YtemenmmekddjaaaGreatDoor
open Go Go.Wx Go.W
variable {ω : Go.W.Origin}
theorem those_actives (ds : List Dev) : those (fun e => e.1 == 1) (ds.map Dev.ent) = (actives ds).map fun i : Nat => (i : Int) := by
  unfold those actives
  rw [List.length_map, ← List.filterMap_eq_filter, List.map_filterMap]
  apply fm_congr
  intro i hi
  have hi := List.mem_range.1 hi
  simp only [List.getD, List.getElem?_map, List.getElem?_eq_getElem hi, Option.map_some, Option.getD_some, Option.some.injEq, Option.guard]
  by_cases h : ds[i].state = 1
  · simp [Dev.ent, h]
  · simp [Dev.ent, h]
section
variable {G H R Hb Hd : List Blk} {w : World} {k : K} {b : Nat} {ds : List Dev} {was : Option (List Dev)}
/-- the roster of a space, read. -/
theorem Spc.len8 (h : Spc G b ds was Hb) : ds.length ≤ 8 := by
  obtain ⟨bs, wv, H1, H2, hst, -, -⟩ := h.open
  have := hst.ok
  unfold rosOk at this
  simp at this
  exact this.1
theorem Spc.size {i : Nat} (h : Spc G b ds was Hb) (hi : i < ds.length) : ds[i].size ≤ 4096 := by
  obtain ⟨bs, wv, H1, H2, hst, -, -⟩ := h.open
  cases hst with
  | mk hr ho hsh hok =>
    obtain ⟨Hd, Hr, h4, _, _⟩ := hsh.at i hi (by rw [hsh.length]; exact hi)
    cases h4 with
    | mk q _ _ => exact q.most
theorem Dev.used_le (d : Dev) : d.used ≤ 2 * d.size := by
  have l1 := bitsIn_le d.size d.tk
  have l2 := bitsIn_le d.size d.gv
  unfold Dev.used; omega
theorem Spc.free_range (h : Spc G b ds was Hb) (i : Nat) : -10000 ≤ freeAt ds i ∧ freeAt ds i ≤ 4096 := by
  unfold freeAt
  split
  · rename_i d hd
    obtain ⟨hi, rfl⟩ := List.getElem?_eq_some_iff.1 hd
    have := h.size hi
    have := Dev.used_le ds[i]
    unfold Dev.free
    omega
  · omega
theorem space_Free (hs : Sat G w H) (h : Spc G b ds was Hb) (hsel : Sel Hb H R) (hk : ∀ w', Sat G w' H → k (int (freeSum ds)) w') : call Tryz.prog w 13 [ptr b] k := by
  refine b_space_Space_Free_walk ?_
  unfold b_space_Space_Free
  have hp := hsel.perm
  have hs := hs.sel hsel
  have h' := h
  have hrange := h.free_range
  obtain ⟨bs, wv, H1, H2, hst, rfl, -⟩ := h.open
  cases hst with
  | @mk vr vs sh Ha Hc hr ho hsh hok =>
  refine nn_r (add_r (ld_r hs (.head _) rfl (nn_r (add_r ?_))))
  refine ldN_r (vs := [vr]) hs (show (bs, row 129 [vr, vs]) ∈ _ by simp) rfl rfl ?_
  refine roster_Actives hs hr.left hok fun v' Hv' w ho' hs => ?_
  rw [those_actives, List.map_map] at ho'
  have hlen := actives_len ds
  have hd8 := h'.len8
  have hrd : Rd 1 v' ((actives ds).map fun i : Nat => int (i : Int)) (Hv' ++ ((b, row 126 [ptr bs, wv]) :: ((bs, row 129 [vr, vs]) :: (Ha ++ Hc) ++ H2) ++ R)) := ho'.rd fun p hp => List.mem_append_left _ hp
  refine hrd.len (actives ds).length (by simp) (by decide) ?_
  refine loop_r (fun c vs' w => ∃ i : Nat, i ≤ (actives ds).length ∧ vs' = [int (((actives ds).take i).map (freeAt ds)).sum, int i] ∧ c = (actives ds).length - i ∧ -10000 * (i : Int) ≤ (((actives ds).take i).map (freeAt ds)).sum ∧ (((actives ds).take i).map (freeAt ds)).sum ≤ 4096 * i ∧ Sat G w (Hv' ++ ((b, row 126 [ptr bs, wv]) :: ((bs, row 129 [vr, vs]) :: (Ha ++ Hc) ++ H2) ++ R))) (actives ds).length ⟨0, by omega, by simp, rfl, by simp, by simp, hs⟩ ?_
  rintro J c vs' w next ⟨i, hi, rfl, rfl, hlo, hhi, hs⟩ hnext
  refine bin_lss (Br_d (fun h => ?_) (fun h => ?_))
  · have hi' : i < (actives ds).length := by simpa using h
    refine hrd.ld1 hs hi' ?_
    obtain ⟨hd, hst1⟩ := actives_lt (List.getElem_mem hi')
    refine space_free hs h' (.app .here) hd fun w hs => ?_
    have hf : freeAt ds (actives ds)[i] = ds[(actives ds)[i]].free := by unfold freeAt; rw [List.getElem?_eq_getElem hd]
    rw [← hf]
    have := hrange (actives ds)[i]
    have e : (((actives ds).take (i + 1)).map (freeAt ds)).sum = (((actives ds).take i).map (freeAt ds)).sum + freeAt ds (actives ds)[i] := by
      rw [List.take_add_one, List.getElem?_eq_getElem hi', List.map_append, List.sum_append]
      simp only [Option.toList_some, List.map_cons, List.map_nil, List.sum_cons, List.sum_nil, Int.add_zero]
    refine bin_add (by omega) (by omega) (bin_add (by omega) (by omega) ?_)
    refine hnext ((actives ds).length - (i + 1)) _ _ (by omega) ⟨i + 1, by omega, by rw [e]; rfl, rfl, by rw [e]; omega, by rw [e]; omega, hs⟩
  · have hi' : i = (actives ds).length := by have : ¬ i < (actives ds).length := by simpa using h
                                             omega
    subst hi'
    rw [List.take_length] at *
    exact hk _ (hs.drop.perm hp.symm)
theorem space_Take (hs : Sat G w H) (hT : Tab G) (h : Spc G b ds was Hb) (hsel : Sel Hb H R)
    (h0 : (best ds (actives ds)).2 = 0 → ∀ w', Sat G w' (Hb ++ R) → k (.tuple #[int 0, .iface 149 (int 50)]) w')
    (hk : ∀ i q Hb' w', (best ds (actives ds)).1 = i → 0 < (best ds (actives ds)).2 → ∀ hi : i < ds.length, i ∈ actives ds → FirstAt ds[i].size (fun x => !ds[i].tk x && !ds[i].gv x) 2 (some q) → Spc G b (ds.set i (ds[i].take q)) was Hb' → Sat G w' (Hb' ++ R) → k (.tuple #[int ((i * 4096 + q : Nat) : Int), .nilIface]) w') : call Tryz.prog w 158 [ptr b] k := by
  refine b_space_Space_Take_walk ?_
  unfold b_space_Space_Take
  have hs := hs.sel hsel
  have h' := h
  have hrange := h.free_range
  obtain ⟨bs, wv, H1, H2, hst, rfl, hback⟩ := h.open
  cases hst with
  | @mk vr vs sh Ha Hc hr ho hsh hok =>
  refine nn_r (add_r (ld_r hs (.head _) rfl (nn_r (add_r ?_))))
  refine ldN_r (vs := [vr]) hs (show (bs, row 129 [vr, vs]) ∈ _ by simp) rfl rfl ?_
  refine roster_Actives hs hr.left hok fun v' Hv' w ho' hs => ?_
  rw [those_actives, List.map_map] at ho'
  have hlen := actives_len ds
  have hd8 := h'.len8
  have hrd : Rd 1 v' ((actives ds).map fun i : Nat => int (i : Int)) (Hv' ++ ((b, row 126 [ptr bs, wv]) :: ((bs, row 129 [vr, vs]) :: (Ha ++ Hc) ++ H2) ++ R)) := ho'.rd fun p hp => List.mem_append_left _ hp
  refine hrd.len (actives ds).length (by simp) (by decide) ?_
  refine loop_r (fun c vs' w => ∃ i : Nat, i ≤ (actives ds).length ∧ vs' = [int ((best ds ((actives ds).take i)).1 : Nat), int (best ds ((actives ds).take i)).2, int i] ∧ c = (actives ds).length - i ∧ Sat G w (Hv' ++ ((b, row 126 [ptr bs, wv]) :: ((bs, row 129 [vr, vs]) :: (Ha ++ Hc) ++ H2) ++ R))) (actives ds).length ⟨0, by omega, rfl, rfl, hs⟩ ?_
  rintro J c vs' w next ⟨i, hi, rfl, rfl, hs⟩ hnext
  refine bin_lss (Br_d (fun h => ?_) (fun h => ?_))
  · have hi' : i < (actives ds).length := by simpa using h
    refine hrd.ld1 hs hi' ?_
    obtain ⟨hd, hst1⟩ := actives_lt (List.getElem_mem hi')
    refine space_free hs h' (.app .here) hd fun w hs => ?_
    have hf : freeAt ds (actives ds)[i] = ds[(actives ds)[i]].free := by unfold freeAt; rw [List.getElem?_eq_getElem hd]
    rw [← hf]
    have e : best ds ((actives ds).take (i + 1)) = if freeAt ds (actives ds)[i] > (best ds ((actives ds).take i)).2 then ((actives ds)[i], freeAt ds (actives ds)[i]) else best ds ((actives ds).take i) := by
      rw [List.take_add_one, List.getElem?_eq_getElem hi']
      unfold best
      rw [List.foldl_append]; rfl
    refine bin_gtr (Br_d (fun h => ?_) (fun h => ?_))
    · refine bin_add (by omega) (by omega) ?_
      refine hnext ((actives ds).length - (i + 1)) _ _ (by omega) ⟨i + 1, by omega, by rw [e, if_pos h]; rfl, rfl, hs⟩
    · refine bin_add (by omega) (by omega) ?_
      refine hnext ((actives ds).length - (i + 1)) _ _ (by omega) ⟨i + 1, by omega, by rw [e, if_neg h]; rfl, rfl, hs⟩
  have hi' : i = (actives ds).length := by have : ¬ i < (actives ds).length := by simpa using h
                                           omega
  subst hi'
  rw [List.take_length] at *
  obtain ⟨b0, b1, b2⟩ := best_spec ds (actives ds)
  have hs := hs.drop
  refine bin_eql (Br_eq (fun hz => h0 hz w hs) (fun hz => ?_))
  obtain ⟨hmem, hfr⟩ := b2 (by omega)
  have hk := hk (best ds (actives ds)).1
  generalize hbi : (best ds (actives ds)).1 = i at *
  obtain ⟨hd, hst1⟩ := actives_lt hmem
  have hsl := hsh.length
  have hi2 : i < sh.length := by omega
  have hrd : Rd 1 vs (sh.map ptr) ((b, row 126 [ptr bs, wv]) :: ((bs, row 129 [vr, vs]) :: (Ha ++ Hc) ++ H2) ++ R) := ho.rd fun p hp => by simp [hp]
  refine nn_r (add_r (ld_r hs (.head _) rfl (nn_r (add_r (ld_r hs (show (bs, row 129 [vr, vs]) ∈ _ by simp) rfl ?_)))))
  refine hrd.ld1 hs hi2 ?_
  obtain ⟨Hd, Hr, h4, h5, hset⟩ := hsh.at i hd hi2
  cases h4 with
  | @mk b1 b2 b3 K1 K2 K3 q1 q2 q3 =>
  have hs := hs.perm (H' := (sh[i], row 173 [ptr b1, ptr b2, ptr b3]) :: (K1 ++ (K2 ++ (K3 ++ ((b, row 126 [ptr bs, wv]) :: ((bs, row 129 [vr, vs]) :: (Ha ++ Hr) ++ H2) ++ R))))) (by refine perm_of_cnt fun a => ?_; have q0 := cnt_perm h5 a; simp only [cnt_app, cnt_cons, cnt_nil] at *; omega)
  have hex : ∃ x, 2 ≤ x ∧ x < ds[i].size ∧ ds[i].tk x = false ∧ ds[i].gv x = false := by
    apply free_some
    have : freeAt ds i = ds[i].free := by unfold freeAt; rw [List.getElem?_eq_getElem hd]
    unfold Dev.free Dev.used at this
    omega
  obtain ⟨x0, hx2, hxn, hxt, hxg⟩ := hex
  have hsize := q1.most
  refine nn_r (add_r (ld_r hs (.head _) rfl ?_))
  refine bitmap_Free hs hT q1 (.cons .here) (by decide) fun r hr1 => ?_
  refine tup_r rfl (tup_r rfl ?_)
  obtain ⟨q, rfl⟩ : ∃ q, r = some q := by
    cases r with
    | some q => exact ⟨q, rfl⟩
    | none => have := hr1 x0 hx2 hxn; simp [hxt] at this
  obtain ⟨r1, r2, r3, r4⟩ := hr1
  have r1 : 2 ≤ q := r1
  have r4 : ∀ x, 2 ≤ x → x < q → (!ds[i].tk x) = false := r4
  refine loop_r (fun c vs' w' => ∃ q : Nat, vs' = [int q] ∧ c = ds[i].size - q ∧ 2 ≤ q ∧ q < ds[i].size ∧ ds[i].tk q = false ∧ (∀ x, 2 ≤ x → x < q → (!ds[i].tk x && !ds[i].gv x) = false) ∧ w' = w) (ds[i].size - q) ⟨q, rfl, rfl, r1, r2, by simpa using r3, fun x h1 h2 => by rw [r4 x h1 h2]; rfl, rfl⟩ ?_
  rintro J c vs' w' next ⟨q, rfl, rfl, g1, g2, g3, g4, rfl⟩ hnext
  refine nn_r (add_r (ld_r hs (.head _) rfl ?_))
  refine bitmap_Has hs q3 (.cons (.app (.app .here))) ?_
  rw [Int.toNat_natCast, show decide ((0 : Int) ≤ q) = true by simp, Bool.true_and]
  have hqx : q ≤ x0 := by
    apply Nat.le_of_not_lt
    intro hlt
    have := g4 x0 hx2 hlt
    simp [hxt, hxg] at this
  refine Br_r (fun hg => ?_) (fun hg => ?_)
  · refine nn_r (add_r (ld_r hs (.head _) rfl (bin_add (by omega) (by omega) ?_)))
    refine bitmap_Free hs hT q1 (.cons .here) (by omega) fun r hr1 => ?_
    refine tup_r rfl (tup_r rfl ?_)
    have hne : q ≠ x0 := fun e => by rw [e, hxg] at hg; cases hg
    obtain ⟨q', rfl⟩ : ∃ q', r = some q' := by
      cases r with
      | some q => exact ⟨q, rfl⟩
      | none => have := hr1 x0 (by omega) hxn; simp [hxt] at this
    obtain ⟨s1, s2, s3, s4⟩ := hr1
    refine hnext (ds[i].size - q') _ _ (by omega) ⟨q', rfl, rfl, by omega, s2, by simpa using s3, fun x h1 h2 => ?_, rfl⟩
    rcases Nat.lt_trichotomy x q with h3 | rfl | h3
    · exact g4 x h1 h3
    · rw [hg]; simp
    · have := s4 x (by omega) h2
      simp at this
      simp [this]
  · refine nn_r (add_r (ld_r hs (.head _) rfl ?_))
    refine bits_Set hs q1 (.cons .here) g2 fun K1' w q1' hs => ?_
    have hs := hs.perm (H' := (sh[i], row 173 [ptr b1, ptr b2, ptr b3]) :: (K1' ++ (K2 ++ (K3 ++ ((b, row 126 [ptr bs, wv]) :: ((bs, row 129 [vr, vs]) :: (Ha ++ Hr) ++ H2) ++ R))))) (by refine perm_of_cnt fun a => ?_; simp only [cnt_app, cnt_cons, cnt_nil] at *; omega)
    refine nn_r (add_r (ld_r hs (.head _) rfl ?_))
    refine bits_Set hs q2 (.cons (.app .here)) g2 fun K2' w q2' hs => ?_
    refine space_Addr (by omega) (by omega) (by omega) (by omega) ?_
    obtain ⟨Hs', h6, h7⟩ := hset (ds[i].take q) _ (.mk (d := ds[i].take q) q1' q2' q3)
    have hent : (ds.set i (ds[i].take q)).map Dev.ent = ds.map Dev.ent := by
      rw [List.map_set]
      have : (ds[i].take q).ent = (ds.map Dev.ent)[i]'(by simpa using hd) := by
        rw [List.getElem_map]; rfl
      rw [this, List.set_getElem_self]
    have := hk q _ w rfl (by omega) hd hmem ⟨g1, g2, by simp [g3, hg], g4⟩ (hback _ _ (.mk (by rw [hent]; exact hr) ho h6 (by rw [hent]; exact hok))) (hs.perm (by refine perm_of_cnt fun a => ?_; have q0 := cnt_perm h7 a; simp only [cnt_app, cnt_cons, cnt_nil] at *; omega))
    simpa using this
end
end Go.Proofs.YtemenmmekddjaaaGreatDoor
end
section
namespace Go.Proofs.YtemenmmekddjaaaGreatDoor
open Go Go.Wx Go.W
variable {ω : Go.W.Origin}
section
variable {G H R Hb Hd : List Blk} {w : World} {k : K} {b : Nat} {ds : List Dev} {was : Option (List Dev)}
theorem space_copied {l : List Ent} {v : Value} (hs : Sat G w H) (hr : Rd 2 v (l.flatMap ent) (G ++ H)) (hl : l.length ≤ 8)
    (hk : ∀ v' Hv' w', Own 95 2 v' (l.flatMap ent) Hv' → Sat G w' (Hv' ++ H) → k (.agg #[v']) w') : call Tryz.prog w 86 [.agg #[v]] k := by
  refine b_space_copied_walk ?_
  unfold b_space_copied
  refine boxA_r (cs := [v]) hs fun b1 w hs => ?_
  refine new_r (cs := [.slice none 0 0]) hs fun b2 w hs => ?_
  (repeat (first | refine nn_r ?_ | refine add_r ?_ | refine ld_r (by assumption) (by repeat (first | exact List.Mem.head _ | apply List.Mem.tail | apply List.mem_append_right)) rfl ?_ | refine ldG_r (by assumption) (by repeat (first | exact List.Mem.head _ | apply List.Mem.tail | apply List.mem_append_right)) rfl ?_ | refine tup_r rfl ?_ | refine len_r ?_ | refine cap_r ?_ | refine draw_r (by assumption) fun w hs => ?_ | refine drawS_r (fun w => Sat _ w _) (by assumption) fun w hs => ?_ | refine held_ld (by assumption) (by repeat (first | exact List.Mem.head _ | apply List.Mem.tail | apply List.mem_append_right)) rfl ?_))
  have hrd : Rd 2 v (l.flatMap ent) ([] ++ (G ++ ((b2, row 66 [.slice none 0 0]) :: (b1, row 66 [v]) :: H))) := by simpa using hr.more.more
  have hfl : (l.flatMap ent).length = l.length * 2 := flat_len fun _ _ => rfl
  refine slices_Clone_roster_Entry_roster_Entry hs.whole (by simpa using hrd) ?_ (by omega) fun v' Hv' w ho hs => ?_
  · intro y hy
    obtain ⟨x, _, hx⟩ := List.mem_flatMap.1 hy
    simp at hx
    rcases hx with rfl | rfl <;> rfl
  have hs : Sat G w (Hv' ++ ((b2, row 66 [.slice none 0 0]) :: (b1, row 66 [v]) :: H)) := by
    have hp : (Hv' ++ (G ++ ((b2, row 66 [.slice none 0 0]) :: (b1, row 66 [v]) :: H))).Perm (G ++ (Hv' ++ ((b2, row 66 [.slice none 0 0]) :: (b1, row 66 [v]) :: H))) := (by refine perm_of_cnt fun a => ?_; simp only [cnt_app, cnt_cons, cnt_nil] at *; omega)
    have h2 := hs.perm hp
    exact ⟨by simpa using h2.nodup, fun p hm => h2.here p (by simpa using hm), h2.kept⟩
  refine bld_r (zero := [.slice none 0 0]) (cs := [v']) (by obtain ⟨a, c, d, rfl⟩ := ho.form; rfl) ?_
  refine stN_r (vs := [v']) hs (.app .head) rfl (by simp) (by simpa using ho.one) fun w hs => ?_
  refine ldN_r (vs := [v']) hs (List.mem_append_right _ (.head _)) rfl rfl ?_
  exact hk _ _ _ ho (((hs.perm List.perm_middle).tail.perm List.perm_middle).tail)
/-- empty maps of n bits. -/
inductive Bms (n : Nat) : List Nat → List Blk → Prop
  | nil : Bms n [] []
  | snoc {p : Nat} {ps : List Nat} {Hp Hs : List Blk} (t : Bms n ps Hs) (h : Bm p n (fun _ => false) Hp) : Bms n (ps ++ [p]) (Hs ++ Hp)
theorem space_newShelf {n : Nat} (hs : Sat G w H) (hn : n ≤ 4096) {st : Int} (hk : ∀ b Hd w', Shf b ⟨st, n, fun _ => false, fun _ => false, fun _ => false⟩ Hd → Sat G w' (Hd ++ H) → k (ptr b) w') : call Tryz.prog w 91 [int n] k := by
  refine b_space_newShelf_walk ?_
  unfold b_space_newShelf
  refine new_r (cs := [.pointer none, .pointer none, .pointer none]) hs fun b0 w hs => ?_
  refine loop_r (fun c vs w => ∃ (ps : List Nat) (Hs : List Blk), ps.length ≤ 3 ∧ vs = [int ps.length] ∧ c = 3 - ps.length ∧ Bms n ps Hs ∧ Sat G w (((b0, row 211 (ps.map ptr ++ List.replicate (3 - ps.length) (Value.pointer none))) :: Hs) ++ H)) 3 ⟨[], [], by simp, rfl, rfl, .nil, hs⟩ ?_
  rintro J c vs w next ⟨ps, Hs, hl, rfl, rfl, hb, hs⟩ hnext
  refine bin_lss (Br_d (fun h => ?_) (fun h => ?_))
  · have hl : ps.length < 3 := by
      have : (ps.length : Int) < 3 := h
      omega
    refine bitmap_New hs hn fun b Hb w hbm hs => ?_
    refine tup_r rfl (tup_r rfl ?_)
    refine idxA_r (by omega) (by show (ps.length : Int) < 3; omega) ?_
    have hset : (ps.map ptr ++ List.replicate (3 - ps.length) (Value.pointer none)).set ps.length (ptr b) = (ps ++ [b]).map ptr ++ List.replicate (3 - (ps ++ [b]).length) (Value.pointer none) := by
      rw [List.set_append_right _ _ (by simp)]
      have : 3 - ps.length = (3 - (ps ++ [b]).length) + 1 := by simp; omega
      rw [this, List.replicate_succ]
      simp
    refine st_r (T := 211) (cs := ps.map ptr ++ List.replicate (3 - ps.length) (Value.pointer none)) (H' := Hb ++ (((b0, row 211 ((ps ++ [b]).map ptr ++ List.replicate (3 - (ps ++ [b]).length) (Value.pointer none))) :: Hs) ++ H)) hs ?_ (by simp; omega) rfl fun w hs => ?_
    · show Upd b0 _ (row _ (List.set _ (0 + (ps.length : Int).toNat * 1) _)) _ _
      rw [Int.toNat_natCast, Nat.zero_add, Nat.mul_one, hset]
      exact .app .head
    refine bin_add (by omega) (by omega) ?_
    refine hnext (3 - (ps.length + 1)) _ _ (by omega) ⟨ps ++ [b], Hs ++ Hb, by simp; omega, by simp, by simp, .snoc hb hbm, hs.perm (by refine perm_of_cnt fun a => ?_; simp only [cnt_app, cnt_cons, cnt_nil] at *; omega)⟩
  · have hl : ps.length = 3 := by
      have : ¬ (ps.length : Int) < 3 := h
      omega
    cases hb with
    | nil => simp at hl
    | @snoc p3 ps H3 Hs t h3 =>
    cases t with
    | nil => simp at hl
    | @snoc p2 ps H2 Hs t h2 =>
    cases t with
    | nil => simp at hl
    | @snoc p1 ps H1 Hs t h1 =>
    cases t with
    | snoc t h0 => simp at hl
    | nil =>
    refine idxA_r (by decide) (by decide) (ld_r hs (.head _) rfl ?_)
    refine idxA_r (by decide) (by decide) (ld_r hs (.head _) rfl ?_)
    refine idxA_r (by decide) (by decide) (ld_r hs (.head _) rfl ?_)
    refine bld_r (zero := [.pointer none, .pointer none, .pointer none]) (cs := [ptr p1, ptr p2, ptr p3]) rfl ?_
    refine boxA_r hs fun b w hs => ?_
    refine hk _ _ _ (.mk (d := ⟨st, n, fun _ => false, fun _ => false, fun _ => false⟩) h1 h2 h3) ?_
    have hs : Sat G w ((b, row 173 [ptr p1, ptr p2, ptr p3]) :: ([] ++ H1 ++ H2 ++ H3 ++ H)) := (hs.perm (List.Perm.swap _ _ _)).tail
    exact hs.perm (H' := (b, row 173 [ptr p1, ptr p2, ptr p3]) :: (H1 ++ (H2 ++ H3)) ++ H) (by refine perm_of_cnt fun a => ?_; simp only [cnt_app, cnt_cons, cnt_nil] at *; omega)
theorem space_grow {d : Dev} {n : Nat} (hs : Sat G w H) (h : Shf b d Hd) (hsel : Sel Hd H R) (hn : d.size ≤ n) (hn2 : n ≤ 4096)
    (hk : ∀ Hd' w', Shf b { d with size := n } Hd' → Sat G w' (Hd' ++ R) → k (.tuple #[]) w') : call Tryz.prog w 92 [ptr b, int n] k := by
  refine b_space_shelf_grow_walk ?_
  unfold b_space_shelf_grow
  have hs := hs.sel hsel
  cases h with
  | @mk b1 b2 b3 K1 K2 K3 h1 h2 h3 =>
  refine drawS_r (fun w => Sat G w ((b, row 173 [ptr b1, ptr b2, ptr b3]) :: (K1 ++ (K2 ++ K3)) ++ R)) hs fun w hs => ?_
  (repeat (first | refine nn_r ?_ | refine add_r ?_ | refine ld_r (by assumption) (by repeat (first | exact List.Mem.head _ | apply List.Mem.tail | apply List.mem_append_right)) rfl ?_ | refine ldG_r (by assumption) (by repeat (first | exact List.Mem.head _ | apply List.Mem.tail | apply List.mem_append_right)) rfl ?_ | refine tup_r rfl ?_ | refine len_r ?_ | refine cap_r ?_ | refine draw_r (by assumption) fun w hs => ?_ | refine drawS_r (fun w => Sat _ w _) (by assumption) fun w hs => ?_ | refine held_ld (by assumption) (by repeat (first | exact List.Mem.head _ | apply List.Mem.tail | apply List.mem_append_right)) rfl ?_))
  refine bldS_r (cs := [ptr b1, ptr b2, ptr b3]) hs rfl (by decide) fun b0 w hs => ?_
  (repeat (first | refine nn_r ?_ | refine add_r ?_ | refine ld_r (by assumption) (by repeat (first | exact List.Mem.head _ | apply List.Mem.tail | apply List.mem_append_right)) rfl ?_ | refine ldG_r (by assumption) (by repeat (first | exact List.Mem.head _ | apply List.Mem.tail | apply List.mem_append_right)) rfl ?_ | refine tup_r rfl ?_ | refine len_r ?_ | refine cap_r ?_ | refine draw_r (by assumption) fun w hs => ?_ | refine drawS_r (fun w => Sat _ w _) (by assumption) fun w hs => ?_ | refine held_ld (by assumption) (by repeat (first | exact List.Mem.head _ | apply List.Mem.tail | apply List.mem_append_right)) rfl ?_))
  refine loop_r (fun c vs w => ∃ (i : Nat) (K1 K2 K3 : List Blk), i ≤ 3 ∧ vs = [int i] ∧ c = 3 - i ∧ Bm b1 (if 0 < i then n else d.size) d.tk K1 ∧ Bm b2 (if 1 < i then n else d.size) d.fr K2 ∧ Bm b3 (if 2 < i then n else d.size) d.gv K3 ∧ Sat G w ((b0, row 171 [ptr b1, ptr b2, ptr b3]) :: (b, row 173 [ptr b1, ptr b2, ptr b3]) :: (K1 ++ (K2 ++ (K3 ++ R))))) 3 ⟨0, K1, K2, K3, by omega, rfl, rfl, h1, h2, h3, hs.perm (by refine perm_of_cnt fun a => ?_; simp only [cnt_app, cnt_cons, cnt_nil] at *; omega)⟩ ?_
  rintro J c vs w next ⟨i, K1, K2, K3, hi, rfl, rfl, h1, h2, h3, hs⟩ hnext
  refine bin_lss (Br_d (fun h => ?_) (fun h => ?_))
  · have h : (i : Int) < 3 := h
    refine idx_r (by omega) (by show (i : Int) < 3; omega) ?_
    have hcase : i = 0 ∨ i = 1 ∨ i = 2 := by omega
    rcases hcase with rfl | rfl | rfl
    · refine ld_r hs (.head _) rfl ?_
      refine bitmap_Len hs h1 (.cons (.cons .here)) ?_
      refine bin_sub (by simp; omega) (by simp; omega) ?_
      rw [if_neg (by omega)] at h1 ⊢
      rw [show ((n : Int) - (d.size : Int)) = ((n - d.size : Nat) : Int) by omega]
      refine bitmap_Grow hs h1 (.cons (.cons .here)) (by omega) fun K1' w h1' hs => ?_
      rw [show d.size + (n - d.size) = n by omega] at h1'
      refine bin_add (by omega) (by omega) ?_
      exact hnext 2 _ _ (by omega) ⟨1, K1', K2, K3, by omega, rfl, rfl, by simpa using h1', by simpa using h2, by simpa using h3, hs.perm (by refine perm_of_cnt fun a => ?_; simp only [cnt_app, cnt_cons, cnt_nil] at *; omega)⟩
    · refine ld_r hs (.head _) rfl ?_
      refine bitmap_Len hs h2 (.cons (.cons (.app .here))) ?_
      refine bin_sub (by simp; omega) (by simp; omega) ?_
      rw [if_neg (by omega)] at h2 ⊢
      rw [show ((n : Int) - (d.size : Int)) = ((n - d.size : Nat) : Int) by omega]
      refine bitmap_Grow hs h2 (.cons (.cons (.app .here))) (by omega) fun K2' w h2' hs => ?_
      rw [show d.size + (n - d.size) = n by omega] at h2'
      refine bin_add (by omega) (by omega) ?_
      exact hnext 1 _ _ (by omega) ⟨2, K1, K2', K3, by omega, rfl, rfl, by simpa using h1, by simpa using h2', by simpa using h3, hs.perm (by refine perm_of_cnt fun a => ?_; simp only [cnt_app, cnt_cons, cnt_nil] at *; omega)⟩
    · refine ld_r hs (.head _) rfl ?_
      refine bitmap_Len hs h3 (.cons (.cons (.app (.app .here)))) ?_
      refine bin_sub (by simp; omega) (by simp; omega) ?_
      rw [if_neg (by omega)] at h3 ⊢
      rw [show ((n : Int) - (d.size : Int)) = ((n - d.size : Nat) : Int) by omega]
      refine bitmap_Grow hs h3 (.cons (.cons (.app (.app .here)))) (by omega) fun K3' w h3' hs => ?_
      rw [show d.size + (n - d.size) = n by omega] at h3'
      refine bin_add (by omega) (by omega) ?_
      exact hnext 0 _ _ (by omega) ⟨3, K1, K2, K3', by omega, rfl, rfl, by simpa using h1, by simpa using h2, by simpa using h3', hs.perm (by refine perm_of_cnt fun a => ?_; simp only [cnt_app, cnt_cons, cnt_nil] at *; omega)⟩
  · have h : ¬ (i : Int) < 3 := h
    obtain rfl : i = 3 := by omega
    exact hk _ _ (.mk (d := { d with size := n }) (by simpa using h1) (by simpa using h2) (by simpa using h3)) (hs.tail.perm (by refine perm_of_cnt fun a => ?_; simp only [cnt_app, cnt_cons, cnt_nil] at *; omega))
end
end Go.Proofs.YtemenmmekddjaaaGreatDoor
end
section
namespace Go.Proofs.YtemenmmekddjaaaGreatDoor
open Go Go.Wx Go.W
variable {ω : Go.W.Origin}
def turned1 (ds : List Dev) (l : List Ent) (i : Nat) : Dev := match ds[i]? with
  | some d => { d with state := (l.getD i (0, 0)).1, size := (l.getD i (0, 0)).2.toNat }
  | none => ⟨(l.getD i (0, 0)).1, (l.getD i (0, 0)).2.toNat, fun _ => false, fun _ => false, fun _ => false⟩
/-- the devices, behind another roster. -/
def turned (ds : List Dev) (l : List Ent) : List Dev := (List.range l.length).map (turned1 ds l)
theorem rosOk_len {l : List Ent} (h : rosOk l = true) : l.length ≤ 8 := by
  unfold rosOk at h; simp at h; exact h.1
theorem rosOk_at {l : List Ent} (h : rosOk l = true) {i : Nat} (hi : i < l.length) : 0 ≤ l[i].2 ∧ l[i].2 ≤ 4096 := by
  unfold rosOk at h
  rw [Bool.and_eq_true, List.all_eq_true] at h
  have := h.2 _ (List.getElem_mem hi)
  unfold entOk at this
  have := of_decide_eq_true this
  exact ⟨this.2.1, this.2.2⟩
theorem turned_ent {ds : List Dev} {l : List Ent} (h : rosOk l = true) : (turned ds l).map Dev.ent = l := by
  apply List.ext_getElem
  · simp [turned]
  · intro i h1 h2
    have hr := rosOk_at h h2
    have hg : l.getD i (0, 0) = l[i] := by simp [List.getD, h2]
    simp only [turned, List.map_map, List.getElem_map, List.getElem_range, Function.comp]
    unfold turned1
    rw [hg]
    split
    · unfold Dev.ent
      show (l[i].1, ((l[i].2.toNat : Nat) : Int)) = l[i]
      rw [Int.toNat_of_nonneg hr.1]
    · unfold Dev.ent
      show (l[i].1, ((l[i].2.toNat : Nat) : Int)) = l[i]
      rw [Int.toNat_of_nonneg hr.1]
theorem Shf.state {b : Nat} {d : Dev} {H : List Blk} (h : Shf b d H) (s : Int) : Shf b { d with state := s } H := by
  cases h with
  | mk h1 h2 h3 => exact .mk (d := { d with state := s }) h1 h2 h3
theorem Stt.mono {G G' : List Blk} {b : Nat} {ds : List Dev} {H : List Blk} (h : Stt G b ds H) (hm : ∀ p ∈ G, p ∈ G') : Stt G' b ds H := by
  cases h with
  | mk hr ho hs hok => exact .mk (hr.mono hm) ho hs hok
theorem Spc.mono {G G' : List Blk} {b : Nat} {ds : List Dev} {was : Option (List Dev)} {H : List Blk} (h : Spc G b ds was H) (hm : ∀ p ∈ G, p ∈ G') : Spc G' b ds was H := by
  cases h with
  | still h => exact .still (h.mono hm)
  | begun h h2 => exact .begun (h.mono hm) (h2.mono hm)
theorem Spc.open2 {G Hb : List Blk} {b : Nat} {ds : List Dev} {was : Option (List Dev)} (h : Spc G b ds was Hb) : ∃ bs wv H1 H2, Stt G bs ds H1 ∧ Hb = (b, row 126 [ptr bs, wv]) :: (H1 ++ H2) ∧ ∀ G' ds' H1', (∀ p ∈ G, p ∈ G') → Stt G' bs ds' H1' → Spc G' b ds' was ((b, row 126 [ptr bs, wv]) :: (H1' ++ H2)) := by
  cases h with
  | @still bs H1 h => exact ⟨bs, .pointer none, H1, [], h, by simp, fun G' ds' H1' _ h' => by simpa using Spc.still h'⟩
  | @begun bs bw H1 H2 was h h2 => exact ⟨bs, ptr bw, H1, H2, h, rfl, fun G' ds' H1' hm h' => .begun h' (h2.mono hm)⟩
section
variable {G H R Hb Hd : List Blk} {w : World} {k : K} {b : Nat} {ds : List Dev} {was : Option (List Dev)}
/-- the roster l may come behind the one that there is, and no device is Removed in either one. -/
def Fits (ds : List Dev) (l : List Ent) : Prop := ds.length ≤ l.length ∧ ∀ i (hi : i < ds.length) (hi2 : i < l.length), (ds[i].size : Int) ≤ l[i].2 ∧ ds[i].state ≠ 3 ∧ l[i].1 ≠ 3
theorem space_fits {l : List Ent} {v : Value} (hs : Sat G w H) (h : Spc G b ds was Hb) (hsel : Sel Hb H R) (hr : Rd 2 v (l.flatMap ent) (G ++ H)) (hl : l.length ≤ 8) (hf : Fits ds l)
    (hk : ∀ w', Sat G w' H → k (.bool true) w') : call Tryz.prog w 90 [ptr b, .agg #[v]] k := by
  refine b_space_Space_fits_walk ?_
  unfold b_space_Space_fits
  have hp := hsel.perm
  obtain ⟨bs, wv, H1, H2, hst, rfl, -⟩ := h.open
  cases hst with
  | @mk vr vs sh Ha Hc hrs ho hsh hok =>
  have m1 : (b, row 126 [ptr bs, wv]) ∈ H := hp.mem_iff.2 (by simp)
  have m2 : (bs, row 129 [vr, vs]) ∈ H := hp.mem_iff.2 (by simp)
  refine boxA_r (cs := [v]) hs fun b3 w hs => ?_
  refine drawS_r (fun w => Sat G w ((b3, row 66 [v]) :: H)) hs fun w hs => ?_
  refine add_r (nn_r (add_r (held_ld hs (.head _) rfl ?_)))
  refine hr.len l.length (flat_len fun _ _ => rfl) (by decide) ?_
  refine held_ld hs (.tail _ m1) rfl (nn_r (add_r (add_r (held_ld hs (.tail _ m2) rfl ?_))))
  have hlen : ((ds.map Dev.ent).flatMap ent).length = ds.length * 2 := by rw [flat_len (size := 2) fun _ _ => rfl, List.length_map]
  refine hrs.len ds.length hlen (by decide) ?_
  have hle := hf.1
  refine bin_lss (Br_d (fun h => by omega) (fun _ => ?_))
  refine nn_r (add_r (ld_r hs (.tail _ m1) rfl (nn_r (add_r (add_r (ld_r hs (.tail _ m2) rfl ?_))))))
  refine hrs.len ds.length hlen (by decide) ?_
  refine loop_r (fun c vs' w => ∃ i : Nat, i ≤ ds.length ∧ vs' = [int i] ∧ c = ds.length - i ∧ Sat G w ((b3, row 66 [v]) :: H)) ds.length ⟨0, by omega, rfl, rfl, hs⟩ ?_
  rintro J c vs' w next ⟨i, hi, rfl, rfl, hs⟩ hnext
  refine bin_lss (Br_d (fun h => ?_) (fun h => ?_))
  · have hi' : i < ds.length := by
      have : (i : Int) < ds.length := h
      omega
    have hi2 : i < l.length := by omega
    obtain ⟨f1, f2, f3⟩ := hf.2 i hi' hi2
    refine hrs.left.ldN hs.whole (fun _ _ => rfl) (by decide) (show i < (ds.map Dev.ent).length by simpa using hi') ?_
    rw [List.getElem_map]
    refine new_r (cs := [int 0, int 0]) hs fun b6 w hs => ?_
    refine stN_r (vs := ent ds[i].ent) hs .head rfl (by simp) (by simp [Value.oneCell']) fun w hs => ?_
    refine add_r (ld_r hs (.tail _ (.head _)) rfl ?_)
    refine hr.more.more.ldN hs.whole (fun _ _ => rfl) (by decide) hi2 ?_
    refine new_r (cs := [int 0, int 0]) hs fun b7 w hs => ?_
    refine stN_r (vs := ent l[i]) hs .head rfl (by simp) (by simp [Value.oneCell']) fun w hs => ?_
    refine add_r (ld_r hs (.head _) rfl (add_r (ld_r hs (.tail _ (.head _)) rfl ?_)))
    refine bin_lss (Br_d (fun h => ?_) (fun _ => ?_))
    · have : l[i].2 < (ds[i].size : Int) := h
      omega
    refine ldN_r (vs := ent l[i]) hs (.head _) rfl rfl ?_
    refine space_member hs fun w hs => ?_
    rw [show (l[i].1 != 3) = true by simpa using f3]
    refine Br_t ?_
    refine ldN_r (vs := ent ds[i].ent) hs (.tail _ (.head _)) rfl rfl ?_
    refine space_member hs fun w hs => ?_
    have f2' : (ds[i].ent.1 != 3) = true := by simpa [Dev.ent] using f2
    rw [f2']
    refine un_not (Br_f ?_)
    refine ldN_r (vs := ent ds[i].ent) hs (.tail _ (.head _)) rfl rfl ?_
    refine space_member hs fun w hs => ?_
    rw [f2']
    refine Br_t ?_
    refine ldN_r (vs := ent l[i]) hs (.head _) rfl rfl ?_
    refine space_member hs fun w hs => ?_
    rw [show (l[i].1 != 3) = true by simpa using f3]
    refine un_not (Br_f ?_)
    have h8 := hsh.length
    refine bin_add (by omega) (by omega) ?_
    exact hnext (ds.length - (i + 1)) _ _ (by omega) ⟨i + 1, by omega, rfl, rfl, hs.tail.tail⟩
  · exact hk _ hs.tail
end
end Go.Proofs.YtemenmmekddjaaaGreatDoor
end
section
namespace Go.Proofs.YtemenmmekddjaaaGreatDoor
open Go Go.Wx Go.W
variable {ω : Go.W.Origin}
section
variable {G H R Hb Hd : List Blk} {w : World} {k : K} {b : Nat} {ds : List Dev} {was : Option (List Dev)}
theorem space_Turn {l : List Ent} {v : Value} (hs : Sat G w H) (h : Spc G b ds was Hb) (hsel : Sel Hb H R) (hr : Rd 2 v (l.flatMap ent) (G ++ R)) (hok : rosOk l = true) (hf : Fits ds l)
    (hk : ∀ Hv Hb' w', Spc (Hv ++ G) b (turned ds l) was Hb' → Sat (Hv ++ G) w' (Hb' ++ R) → k .nilIface w') : call Tryz.prog w 27 [ptr b, .agg #[v]] k := by
  refine b_space_Space_Turn_walk ?_
  unfold b_space_Space_Turn
  have hl8 := rosOk_len hok
  have hs := hs.sel hsel
  refine boxA_r (cs := [v]) hs fun b3 w hs => ?_
  have hrb : ∀ X, Rd 2 v (l.flatMap ent) (G ++ (X ++ R)) := fun X => hr.sub fun p hp => List.mem_append_right _ hp
  refine ldN_r (vs := [v]) hs (.head _) rfl rfl ?_
  refine roster_Check hs (hrb (_ :: Hb)) (by omega) fun w hs => ?_
  rw [hok, if_pos rfl]
  refine eq_nn (Br_f ?_)
  refine ldN_r (vs := [v]) hs (.head _) rfl rfl ?_
  refine space_fits hs h (.cons .here) (hrb (_ :: Hb)) hl8 hf fun w hs => ?_
  refine un_not (Br_f ?_)
  obtain ⟨bs, wv, H1, H2, hst, rfl, hback⟩ := h.open2
  cases hst with
  | @mk vr vs sh Ha Hc hrs ho hsh hoks =>
  refine drawS_r (fun w => Sat G w ((b3, row 66 [v]) :: (b, row 126 [ptr bs, wv]) :: ((bs, row 129 [vr, vs]) :: (Ha ++ Hc) ++ H2) ++ R)) hs fun w hs => ?_
  refine nn_r (add_r (held_ld hs (.tail _ (.head _)) rfl (held_ldN (vs := [v]) hs (.head _) rfl rfl ?_)))
  refine space_copied hs (hrb (_ :: _)) hl8 fun v' Hv w hov hs => ⟨hs.drop, ?_⟩
  have hs := hs.perm (H' := (b, row 126 [ptr bs, wv]) :: (bs, row 129 [vr, vs]) :: (b3, row 66 [v]) :: (Hv ++ (Ha ++ (Hc ++ (H2 ++ R))))) (by refine perm_of_cnt fun a => ?_; simp only [cnt_app, cnt_cons, cnt_nil] at *; omega)
  refine nn_r (add_r ?_)
  refine stN_r (vs := [v']) hs (.cons .head) rfl (by simp) (by simpa using hov.one) fun w hs => ?_
  refine add_r (ld_r hs (.tail _ (.tail _ (.head _))) rfl ?_)
  refine hr.len l.length (flat_len fun _ _ => rfl) (by decide) ?_
  have hle := hf.1
  refine loop_r (fun c vs' w => ∃ (i : Nat) (vs : Value) (sh : List Nat) (Ha Hc : List Blk), i ≤ l.length ∧ vs' = [int i] ∧ c = l.length - i ∧ Own 161 1 vs (sh.map ptr) Ha ∧ Shfs sh ((turned ds l).take i ++ ds.drop i) Hc ∧
      Sat G w ((b, row 126 [ptr bs, wv]) :: (bs, row 129 [v', vs]) :: (b3, row 66 [v]) :: (Hv ++ (Ha ++ (Hc ++ (H2 ++ R)))))) l.length ⟨0, vs, sh, Ha, Hc, by omega, rfl, rfl, ho, by simpa using hsh, hs⟩ ?_
  rintro J c vs' w next ⟨i, vs, sh, Ha, Hc, hi, rfl, rfl, ho, hsh, hs⟩ hnext
  have hlt : (turned ds l).length = l.length := by simp [turned]
  refine bin_lss (Br_d (fun h => ?_) (fun h => ?_))
  · have hi' : i < l.length := by
      have : (i : Int) < l.length := h
      omega
    have hrw : Rd 2 v (l.flatMap ent) (G ++ ((b, row 126 [ptr bs, wv]) :: (bs, row 129 [v', vs]) :: (b3, row 66 [v]) :: (Hv ++ (Ha ++ (Hc ++ (H2 ++ R)))))) := hr.sub fun p hp => by simp [hp]
    refine hrw.ldN hs.whole (fun _ _ => rfl) (by decide) hi' ?_
    refine new_r (cs := [int 0, int 0]) hs fun b6 w hs => ?_
    refine stN_r (vs := ent l[i]) hs .head rfl (by simp) (by simp [Value.oneCell']) fun w hs => ?_
    refine nn_r (add_r (ld_r hs (.tail _ (.head _)) rfl (nn_r (add_r (ld_r hs (.tail _ (.tail _ (.head _))) rfl ?_)))))
    have hshl := hsh.length
    have hmid : ((turned ds l).take i ++ ds.drop i).length = i + (ds.length - i) := by simp [hlt]; omega
    have hr2 := rosOk_at hok hi'
    have hge : l.getD i (0, 0) = l[i] := by simp [List.getD, hi']
    -- the rest of the pass: the shelf with the number i is there
    have main : ∀ (vs : Value) (sh : List Nat) (Ha Hc : List Blk) (dl : List Dev) (w : World) (d : Dev), Own 161 1 vs (sh.map ptr) Ha → Shfs sh dl Hc → (hd : i < dl.length) → dl[i] = d → (d.size : Int) ≤ l[i].2 →
        dl.set i { d with state := l[i].1, size := l[i].2.toNat } = (turned ds l).take (i + 1) ++ ds.drop (i + 1) →
        Sat G w ((b6, row 95 (ent l[i])) :: (b, row 126 [ptr bs, wv]) :: (bs, row 129 [v', vs]) :: (b3, row 66 [v]) :: (Hv ++ (Ha ++ (Hc ++ (H2 ++ R))))) →
        b_space_Space_Turnj1 (ptr b) (int i) (ptr b6) v (int l.length) (int i) next k w := by
      intro vs sh Ha Hc dl w d ho hsh hd hdd hsz hset hs
      unfold b_space_Space_Turnj1
      have hent : ent l[i] = [int l[i].1, int ((l[i].2.toNat : Nat) : Int)] := by
        have e2 : ((l[i].2.toNat : Nat) : Int) = l[i].2 := by omega
        rw [e2]
      rw [hent] at hs
      have hshl := hsh.length
      have hi2 : i < sh.length := by omega
      obtain ⟨Hd, Hr, h4, h5, hset2⟩ := hsh.at i hd hi2
      rw [hdd] at h4
      have hs := hs.perm (H' := Hd ++ ((b6, row 95 [int l[i].1, int ((l[i].2.toNat : Nat) : Int)]) :: (b, row 126 [ptr bs, wv]) :: (bs, row 129 [v', vs]) :: Ha ++ ((b3, row 66 [v]) :: (Hv ++ (Hr ++ (H2 ++ R)))))) (by refine perm_of_cnt fun a => ?_; have q0 := cnt_perm h5 a; simp only [cnt_app, cnt_cons, cnt_nil] at *; omega)
      refine drawS_r (fun w => Sat G w ((b6, row 95 [int l[i].1, int ((l[i].2.toNat : Nat) : Int)]) :: (b, row 126 [ptr bs, wv]) :: (bs, row 129 [v', vs]) :: Ha)) hs fun w hs => ?_
      have hK := hs.drop.keep
      refine nn_r (add_r (add_r (held_ld hK (.tail _ (.head _)) rfl (nn_r (add_r (held_ld hK (.tail _ (.tail _ (.head _))) rfl ?_))))))
      have hrd : Rd 1 vs (sh.map ptr) ((b6, row 95 [int l[i].1, int ((l[i].2.toNat : Nat) : Int)]) :: (b, row 126 [ptr bs, wv]) :: (bs, row 129 [v', vs]) :: Ha) := ho.rd fun p hp => by simp [hp]
      rw [map_flat] at hrd
      refine hrd.idx (fun _ _ => rfl) (by decide) hi2 fun b2 o2 h3 => ?_
      refine h3.held1 (i := 0) hK rfl ?_
      refine held_ld hK (.head _) rfl ?_
      refine space_grow hs h4 .here (by omega) (by omega) fun Hd' w hd' hs => ⟨hs.drop.keep, ?_⟩
      refine bin_add (by omega) (by omega) ?_
      obtain ⟨Hs', h6, h7⟩ := hset2 _ _ (hd'.state l[i].1)
      rw [hset] at h6
      exact hnext (l.length - (i + 1)) _ _ (by omega) ⟨i + 1, vs, sh, Ha, Hs', by omega, rfl, rfl, ho, h6, (hs.perm (H' := (b6, row 95 [int l[i].1, int ((l[i].2.toNat : Nat) : Int)]) :: _) (by refine perm_of_cnt fun a => ?_; have q0 := cnt_perm h7 a; simp only [cnt_app, cnt_cons, cnt_nil] at *; omega)).tail⟩
    have htk : (turned ds l).take (i + 1) = (turned ds l).take i ++ [turned1 ds l i] := by
      rw [List.take_add_one]
      congr 1
      unfold turned
      rw [List.getElem?_map, List.getElem?_range hi']
      rfl
    have htl : ((turned ds l).take i).length = i := by simp [hlt]; omega
    refine Rd.len (ho.rd (H := Ha) fun p hp => hp) sh.length (by simp) (by decide) ?_
    refine bin_eql (Br_eq (fun he => ?_) (fun he => ?_))
    · have he : i = sh.length := by
        have : (i : Int) = sh.length := he
        omega
      have hdi : ds.length ≤ i := by omega
      rw [List.drop_eq_nil_of_le hdi, List.append_nil] at hsh
      refine drawS_r (fun w => Sat G w [(b, row 126 [ptr bs, wv]), (bs, row 129 [v', vs])]) hs fun w hs => ?_
      have hK : ∀ {w : World} {X Y Z : List Blk}, Sat G w (X ++ ((b6, row 95 (wr [int 0, int 0] 0 (ent l[i]))) :: (b, row 126 [ptr bs, wv]) :: (bs, row 129 [v', vs]) :: Y)) → Sat G w [(b, row 126 [ptr bs, wv]), (bs, row 129 [v', vs])] := fun h => Sat.keep (H := [_, _]) h.drop.tail
      have hK0 := hK (X := []) (Z := []) hs
      refine nn_r (add_r (nn_r (add_r (held_ld hK0 (.head _) rfl (held_ld hK0 (.head _) rfl (nn_r (add_r (held_ld hK0 (.tail _ (.head _)) rfl ?_))))))))
      refine space_newShelf (n := 0) (st := l[i].1) hs (by decide) fun bn Hd w hd hs => ⟨hK (Z := []) hs, ?_⟩
      refine bldS_r (cs := [ptr bn]) hs (fill_one rfl) (by decide) fun b9 w hs => ⟨hK (Z := []) (X := (b9, row 161 [ptr bn]) :: Hd) hs, ?_⟩
      have hs := hs.perm (H' := Ha ++ ((b9, row 161 [ptr bn]) :: (Hd ++ ((b6, row 95 (wr [int 0, int 0] 0 (ent l[i]))) :: (b, row 126 [ptr bs, wv]) :: (bs, row 129 [v', vs]) :: (b3, row 66 [v]) :: (Hv ++ (Hc ++ (H2 ++ R))))))) (by refine perm_of_cnt fun a => ?_; simp only [cnt_app, cnt_cons, cnt_nil] at *; omega)
      refine app_r (ys := [ptr bn]) hs ho .here ⟨rfl, fun x u hx => ?_⟩ (fun y hy => by
          have : y = ptr bn := by simpa using hy
          rw [this]; rfl) (by decide) rfl (by decide) (by simp; omega) fun vs2 Ha2 w ho2 hs => ⟨hK (Z := []) (X := Ha2 ++ ((b9, row 161 [ptr bn]) :: Hd)) (by simpa using hs), ?_⟩
      · rw [Addr.add_lit, Nat.zero_add]
        exact cell_row (hs.get (List.mem_append_right _ (.head _))) hx
      refine nn_r (add_r ?_)
      have hs := hs.perm (H' := (bs, row 129 [v', vs]) :: (b9, row 161 [ptr bn]) :: (b6, row 95 (wr [int 0, int 0] 0 (ent l[i]))) :: (b, row 126 [ptr bs, wv]) :: (b3, row 66 [v]) :: (Hv ++ (Ha2 ++ ((Hc ++ Hd) ++ (H2 ++ R))))) (by refine perm_of_cnt fun a => ?_; simp only [cnt_app, cnt_cons, cnt_nil] at *; omega)
      refine st_r hs .head (by simp) ho2.one fun w hs => ?_
      obtain ⟨Hc2, hsh2, hpc⟩ := hsh.append hd
      rw [show ptr bn = ptr bn from rfl, ← List.map_singleton (f := ptr), ← List.map_append] at ho2
      refine main vs2 (sh ++ [bn]) Ha2 Hc2 _ w ⟨l[i].1, 0, fun _ => false, fun _ => false, fun _ => false⟩ ho2 hsh2 (by simp; omega) (by rw [List.getElem_append_right (by omega)]; simp) (by simpa using hr2.1) ?_ ?_
      · rw [htk, List.drop_eq_nil_of_le (by omega), List.append_nil, List.set_append_right _ _ (by omega)]
        have e0 : i - ((turned ds l).take i).length = 0 := by omega
        simp only [e0, List.set_cons_zero]
        congr 2
        unfold turned1
        rw [List.getElem?_eq_none hdi, hge]
      · have := hs.perm (H' := (b9, row 161 [ptr bn]) :: (b6, row 95 (wr [int 0, int 0] 0 (ent l[i]))) :: (b, row 126 [ptr bs, wv]) :: (bs, row 129 ([v', vs].set (0 + 1) vs2)) :: (b3, row 66 [v]) :: (Hv ++ (Ha2 ++ (Hc2 ++ (H2 ++ R))))) (by refine perm_of_cnt fun a => ?_; have q0 := cnt_perm hpc a; simp only [cnt_app, cnt_cons, cnt_nil] at *; omega)
        exact this.tail
    · have he : i ≠ sh.length := fun h => he (by rw [h])
      have hdi : i < ds.length := by omega
      have hsz := (hf.2 i hdi hi').1
      refine main vs sh Ha Hc _ w ds[i] ho hsh (by omega) (by rw [List.getElem_append_right (by omega)]; simp [htl]) hsz ?_ hs
      rw [htk, List.set_append_right _ _ (by omega), List.drop_eq_getElem_cons hdi]
      have e0 : i - ((turned ds l).take i).length = 0 := by omega
      simp only [e0, List.set_cons_zero, List.append_assoc, List.singleton_append]
      congr 2
      unfold turned1
      rw [List.getElem?_eq_getElem hdi, hge]
  · have hi' : i = l.length := by
      have : ¬ (i : Int) < l.length := h
      omega
    subst hi'
    rw [List.take_of_length_le (by omega), List.drop_eq_nil_of_le hle, List.append_nil] at hsh
    have hs2 := Sat.freeze (hs.perm (H' := Hv ++ (((b, row 126 [ptr bs, wv]) :: ((bs, row 129 [v', vs]) :: (Ha ++ Hc) ++ H2)) ++ R ++ [(b3, row 66 [v])])) (by refine perm_of_cnt fun a => ?_; simp only [cnt_app, cnt_cons, cnt_nil] at *; omega))
    refine hk Hv _ _ (hback _ _ _ (fun p hp => List.mem_append_right _ hp) (.mk ?_ ho hsh (by rw [turned_ent hok]; exact hok))) hs2.keep
    rw [turned_ent hok]
    exact hov.rd fun p hp => List.mem_append_left _ hp
end
end Go.Proofs.YtemenmmekddjaaaGreatDoor
end
section
namespace Go.Proofs.YtemenmmekddjaaaGreatDoor
open Go Go.Wx Go.W
variable {ω : Go.W.Origin}
section
variable {G H R Hb Hd : List Blk} {w : World} {k : K} {b : Nat} {ds : List Dev} {was : Option (List Dev)}
theorem rosOk_nil : rosOk [] = true := rfl
theorem space_New {l : List Ent} {v : Value} (hs : Sat G w H) (hr : Rd 2 v (l.flatMap ent) (G ++ H)) (hok : rosOk l = true) (hm : ∀ e ∈ l, e.1 ≠ 3)
    (hk : ∀ b Hv Hb' w', Spc (Hv ++ G) b (turned [] l) none Hb' → Sat (Hv ++ G) w' (Hb' ++ H) → k (.tuple #[ptr b, .nilIface]) w') : call Tryz.prog w 33 [.agg #[v]] k := by
  refine b_space_New_walk ?_
  unfold b_space_New
  refine boxA_r (cs := [v]) hs fun b1 w hs => ?_
  refine bld_r (zero := [.slice none 0 0, .slice none 0 0]) (cs := [.slice none 0 0, .slice none 0 0]) rfl ?_
  refine boxA_r (cs := [.slice none 0 0, .slice none 0 0]) hs fun b2 w hs => ?_
  refine bld_r (zero := [.pointer none, .pointer none]) (cs := [ptr b2, .pointer none]) rfl ?_
  refine boxA_r (cs := [ptr b2, .pointer none]) hs fun b3 w hs => ?_
  refine ldN_r (vs := [v]) hs (by repeat (first | exact List.Mem.head _ | apply List.Mem.tail | apply List.mem_append_right)) rfl rfl ?_
  have hst : Stt G b2 [] [(b2, row 129 [.slice none 0 0, .slice none 0 0])] := .mk (bs := []) (H1 := []) (H2 := []) (.nil rfl rfl) .nil .nil rfl
  refine space_Turn (R := (b1, row 66 [v]) :: H) hs (.still hst) .here hr.more hok ⟨by simp, fun i hi _ => by simp at hi⟩ fun Hv Hb' w hsp hs => ?_
  refine eq_nn (Br_f ?_)
  exact hk _ _ _ _ hsp ((hs.perm List.perm_middle).tail)
end
end Go.Proofs.YtemenmmekddjaaaGreatDoor
end
