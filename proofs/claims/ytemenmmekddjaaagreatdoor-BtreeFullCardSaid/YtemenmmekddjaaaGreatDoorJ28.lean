/- What the functions of package pages do: the store in memory; reading it, holds. No condition. What the functions of package pages do: pages that go. No condition. What the functions of package pages do: a new store, one page more. No condition. -/
import Derived.KernelRfl
import Derived.Test.YtemenmmekddjaaaGreatDoorJ05
import Derived.Test.YtemenmmekddjaaaGreatDoorJ21
import Derived.Test.YtemenmmekddjaaaGreatDoorJ23
import Derived.Test.YtemenmmekddjaaaGreatDoorJ24
import Derived.Test.YtemenmmekddjaaaGreatDoorJ27
set_option linter.all false
set_option linter.unusedVariables false
set_option linter.unusedSimpArgs false
set_option linter.unnecessarySimpa false
set_option linter.unusedSectionVars false
set_option linter.constructorNameAsVariable false
section
namespace Go.Proofs.YtemenmmekddjaaaGreatDoor
open Go Go.Wx Go.W
variable {ω : Go.W.Origin}
abbrev pgc (p : Pg) (f : Value × Value) : List Value := [int p.n.lv, f.1, f.2, int p.holds, int p.held]
def mapF (σ : Sto) (F : Int → Value × Value) : Int → Option Value := fun a => (σ.pg a).map fun p => .agg (pgc p (F a)).toArray
/-- a store of pages at b with its bank at bb and its space at sb; wv: what there was at Begin; P: the rows of all nodes. -/
inductive WldR (G : List Blk) (b bb sb : Nat) (σ : Sto) (wv : Value) (P : List Blk) : List Blk → Prop
  | mk {mb clock : Nat} {es : List MapEntry} {F : Int → Value × Value} {Hk Hp : List Blk} (hm : MapOf es clock (mapF σ F))
      (hP : ∀ a p, σ.pg a = some p → Rd 1 (F a).1 ((p.n.l.map Prod.fst).map int) P ∧ Rd 1 (F a).2 ((p.n.l.map Prod.snd).map int) P)
      (hk : BnkR bb σ.bk σ.done Hk) (hp : Spc G sb σ.ds σ.was Hp) (hfit : σ.ds.length ≤ σ.bk.length ∧ ∀ i (h : i < σ.ds.length) (h2 : i < σ.bk.length), σ.ds[i].size ≤ σ.bk[i].length)
      (htop : ∀ a p, σ.pg a = some p → p.holds ≤ 4611686018427387904 ∧ p.n.l.length < 65536) (hwv : wv.oneCell' = true) :
      WldR G b bb sb σ wv P ((b, row 123 [ptr bb, ptr sb, .map (some mb), wv]) :: (mb, Obj.map es.toArray clock) :: (P ++ (Hp ++ Hk)))
abbrev pgz : Value := .agg #[.int .i64 0, .slice none 0 0, .slice none 0 0, .int .i64 0, .int .i64 0]
section
variable {G H H' R Hb Hv P : List Blk} {w : World} {k : K} {b bb sb : Nat} {σ σ' : Sto} {wv : Value} {a : Int} {p : Pg}
theorem pages_copied {v : Value} {n : Nd} (hs : Sat G w H) (hv : NdV v n H) (h8 : n.l.length < 65536) (hk : ∀ v' X w', NdV v' n X → Sat G w' (X ++ H) → k v' w') : call Tryz.prog w 129 [v] k := by
  refine b_pages_copied_walk ?_
  unfold b_pages_copied
  obtain ⟨kv, vv, rfl, h1, h2⟩ := hv
  refine boxA_r (cs := [int n.lv, kv, vv]) hs fun b1 w hs => ?_
  refine new_r (cs := [int 0, .slice none 0 0, .slice none 0 0]) hs fun b2 w hs => ?_
  refine drawS_r (fun w => ∃ X, Sat G w (X ++ ((b2, row 119 [int 0, .slice none 0 0, .slice none 0 0]) :: (b1, row 119 [int n.lv, kv, vv]) :: H))) hs fun w hs => ?_
  have hld : ∀ (o : Nat) (x : Value) (k : K), [int (n.lv : Int), kv, vv][o]? = some x → k x w → held (fun w => ∃ X, Sat G w (X ++ ((b2, row 119 [int 0, .slice none 0 0, .slice none 0 0]) :: (b1, row 119 [int n.lv, kv, vv]) :: H))) w (fun w k => ld w (at_ b1 (0 + o)) k) k := fun o x k hx h =>
    ⟨⟨[], hs⟩, _, fun w' ⟨X, hs'⟩ => ld_r hs' (List.mem_append_right _ (.tail _ (.head _))) (by rw [Nat.zero_add]; exact hx) ⟨rfl, rfl⟩, h⟩
  refine add_r (add_r (add_r (hld 0 _ _ rfl (hld 1 _ _ rfl (hld 2 _ _ rfl ?_)))))
  have hm : ∀ {X : List Blk}, ∀ p ∈ H, p ∈ X ++ ((b2, row 119 [int 0, .slice none 0 0, .slice none 0 0]) :: (b1, row 119 [int n.lv, kv, vv]) :: H) := fun p hp => List.mem_append_right _ (.tail _ (.tail _ hp))
  refine slices_Clone_int_int hs (h1.mono (hm (X := []))) (ints_one ⟨_, rfl⟩) (by simp; omega) fun v1 H1 w o1 hs => ⟨⟨_, hs⟩, ?_⟩
  refine slices_Clone_int_int hs (h2.mono hm) (ints_one ⟨_, rfl⟩) (by simp; omega) fun v2 H2 w o2 hs => ⟨⟨H2 ++ H1, by rw [List.append_assoc]; exact hs⟩, ?_⟩
  refine bld_r (zero := [int 0, .slice none 0 0, .slice none 0 0]) (cs := [int n.lv, v1, v2]) ?_ ?_
  · obtain ⟨_, _, _, rfl⟩ := o1.form
    obtain ⟨_, _, _, rfl⟩ := o2.form
    rfl
  refine stN_r (vs := [int n.lv, v1, v2]) hs (.app (.app .head)) rfl (by simp) (fun y hy => by
    simp only [List.mem_cons, List.not_mem_nil, or_false] at hy
    rcases hy with rfl | rfl | rfl
    · rfl
    · exact o1.one
    · exact o2.one) fun w hs => ?_
  have hs : Sat G w (H2 ++ (H1 ++ ((b2, row 119 [int n.lv, v1, v2]) :: (b1, row 119 [int n.lv, kv, vv]) :: H))) := hs
  refine ldN_r (vs := [int n.lv, v1, v2]) hs (List.mem_append_right _ (List.mem_append_right _ (.head _))) rfl rfl ?_
  exact hk _ (H1 ++ H2) w ⟨v1, v2, rfl, o1.rd fun p hp => List.mem_append_left _ hp, o2.rd fun p hp => List.mem_append_right _ hp⟩ ((hs.perm (H' := [(b2, row 119 [int n.lv, v1, v2]), (b1, row 119 [int n.lv, kv, vv])] ++ ((H1 ++ H2) ++ H)) (by refine perm_of_cnt fun a => ?_; simp only [cnt_app, cnt_cons, cnt_nil] at *; omega)).drop)
theorem pages_kids {v : Value} {n : Nd} (hs : Sat G w H) (hv : NdV v n H) (hk : ∀ v' w', Rd 1 v' ((kids n).map int) H → Sat G w' H → k v' w') : call Tryz.prog w 161 [v] k := by
  refine b_pages_kids_walk ?_
  unfold b_pages_kids
  obtain ⟨kv, vv, rfl, h1, h2⟩ := hv
  refine boxA_r (cs := [int n.lv, kv, vv]) hs fun b1 w hs => ?_
  refine add_r (ld_r hs (.head _) rfl (bin_eql (Br_eq (fun h => ?_) (fun h => ?_))))
  · have : n.lv = 0 := by omega
    exact hk _ w (.nil rfl (by unfold kids; rw [if_pos this]; rfl)) hs.tail
  · have : n.lv ≠ 0 := by omega
    refine add_r (ld_r hs (.head _) rfl ?_)
    exact hk _ w (by unfold kids; rw [if_neg this]; exact h2) hs.tail
theorem pgc_one {f : Value × Value} {x y : List Value} {Q : List Blk} (h1 : Rd 1 f.1 x Q) (h2 : Rd 1 f.2 y Q) : ∀ z ∈ pgc p f, z.oneCell' = true := by
  intro z hz
  simp only [List.mem_cons, List.not_mem_nil, or_false] at hz
  rcases hz with rfl | rfl | rfl | rfl | rfl
  · rfl
  · exact h1.one
  · exact h2.one
  · rfl
  · rfl
theorem pages_Get (hs : Sat G w H) (h : WldR G b bb sb σ wv P Hb) (hsel : Sel Hb H R) (hp : σ.pg a = some p) (hk : ∀ v X w', NdV v p.n X → Sat G w' (X ++ H) → k (.tuple #[v, .nilIface]) w') : call Tryz.prog w 79 [ptr b, int a] k := by
  refine b_pages_Store_Get_walk ?_
  unfold b_pages_Store_Get
  have hpm := hsel.perm
  cases h with
  | @mk mb clock es F Hk Hp hm hP hbk hsp hfit htop hwv =>
  have hs := hs.sel hsel
  obtain ⟨r1, r2⟩ := hP a p hp
  have hf : mapF σ F a = some (.agg (pgc p (F a)).toArray) := by unfold mapF; rw [hp]; rfl
  refine new_r (cs := [int 0, .slice none 0 0, .slice none 0 0]) hs fun b4 w hs => ?_
  refine nn_r (add_r (ld_r hs (.tail _ (.head _)) rfl ?_))
  refine lkp_r hs (.tail _ (.tail _ (.head _))) hm ?_
  rw [hf]
  dsimp only
  rw [if_pos rfl]
  refine tup_r rfl (tup_r rfl ?_)
  refine new_r (cs := [int 0, .slice none 0 0, .slice none 0 0, int 0, int 0]) hs fun b6 w hs => ?_
  refine stN_r (vs := pgc p (F a)) hs .head rfl (by simp) (pgc_one r1 r2) fun w hs => ?_
  have hs : Sat G w ((b6, row 121 (pgc p (F a))) :: (b4, row 119 [int 0, .slice none 0 0, .slice none 0 0]) :: (((b, row 123 [ptr bb, ptr sb, .map (some mb), wv]) :: (mb, Obj.map es.toArray clock) :: (P ++ (Hp ++ Hk))) ++ R)) := hs
  refine un_not (Br_f ?_)
  refine add_r (ldN_r (vs := [int p.n.lv, (F a).1, (F a).2]) hs (.head _) rfl rfl ?_)
  have hmm : ∀ q ∈ P, q ∈ (b6, row 121 (pgc p (F a))) :: (b4, row 119 [int 0, .slice none 0 0, .slice none 0 0]) :: (((b, row 123 [ptr bb, ptr sb, .map (some mb), wv]) :: (mb, Obj.map es.toArray clock) :: (P ++ (Hp ++ Hk))) ++ R) := fun q hq => by simp [hq]
  refine pages_copied hs ⟨_, _, rfl, r1.mono hmm, r2.mono hmm⟩ (htop a p hp).2 fun v X w hn hs => ?_
  obtain ⟨k3, u3, rfl, g1, g2⟩ := hn
  refine stN_r (vs := [int p.n.lv, k3, u3]) hs (.app (.cons .head)) rfl (by simp) (fun y hy => by
    simp only [List.mem_cons, List.not_mem_nil, or_false] at hy
    rcases hy with rfl | rfl | rfl
    · rfl
    · exact g1.one
    · exact g2.one) fun w hs => ?_
  have hs : Sat G w (X ++ ((b6, row 121 (pgc p (F a))) :: (b4, row 119 [int p.n.lv, k3, u3]) :: (((b, row 123 [ptr bb, ptr sb, .map (some mb), wv]) :: (mb, Obj.map es.toArray clock) :: (P ++ (Hp ++ Hk))) ++ R))) := hs
  refine ldN_r (vs := [int p.n.lv, k3, u3]) hs (List.mem_append_right _ (.tail _ (.head _))) rfl rfl ?_
  refine hk _ X w ⟨k3, u3, rfl, g1, g2⟩ ((hs.perm (H' := [(b6, row 121 (pgc p (F a))), (b4, row 119 [int p.n.lv, k3, u3])] ++ (X ++ H)) (by refine perm_of_cnt fun a => ?_; have q0 := cnt_perm hpm a; simp only [cnt_app, cnt_cons, cnt_nil] at *; omega)).drop)
theorem pages_Get_none (hs : Sat G w H) (h : WldR G b bb sb σ wv P Hb) (hsel : Sel Hb H R) (hp : σ.pg a = none) (hk : ∀ w', Sat G w' H → k (.tuple #[.agg #[int 0, .slice none 0 0, .slice none 0 0], .iface 149 (int 81)]) w') : call Tryz.prog w 79 [ptr b, int a] k := by
  refine b_pages_Store_Get_walk ?_
  unfold b_pages_Store_Get
  have hpm := hsel.perm
  cases h with
  | @mk mb clock es F Hk Hp hm hP hbk hsp hfit htop hwv =>
  have hs := hs.sel hsel
  have hf : mapF σ F a = none := by unfold mapF; rw [hp]; rfl
  refine new_r (cs := [int 0, .slice none 0 0, .slice none 0 0]) hs fun b4 w hs => ?_
  refine nn_r (add_r (ld_r hs (.tail _ (.head _)) rfl ?_))
  refine lkp_r hs (.tail _ (.tail _ (.head _))) hm ?_
  rw [hf]
  dsimp only
  rw [if_pos rfl]
  refine tup_r rfl (tup_r rfl ?_)
  refine new_r (cs := [int 0, .slice none 0 0, .slice none 0 0, int 0, int 0]) hs fun b6 w hs => ?_
  refine stN_r (vs := [int 0, .slice none 0 0, .slice none 0 0, int 0, int 0]) hs .head rfl (by simp) (by simp [Value.oneCell']) fun w hs => ?_
  refine un_not (Br_t ?_)
  refine bld_r (zero := [int 0, .slice none 0 0, .slice none 0 0]) (cs := [int 0, .slice none 0 0, .slice none 0 0]) rfl ?_
  refine stN_r (vs := [int 0, .slice none 0 0, .slice none 0 0]) hs (.cons .head) rfl (by simp) (by simp [Value.oneCell']) fun w hs => ?_
  refine ldN_r (vs := [int 0, .slice none 0 0, .slice none 0 0]) hs (.tail _ (.head _)) rfl rfl ?_
  exact hk w (hs.tail.tail.perm hpm.symm)
theorem pages_Holds (hs : Sat G w H) (h : WldR G b bb sb σ wv P Hb) (hsel : Sel Hb H R) (hk : k (int (match σ.pg a with | some p => p.holds | none => 0)) w) : call Tryz.prog w 14 [ptr b, int a] k := by
  refine b_pages_Store_Holds_walk ?_
  unfold b_pages_Store_Holds
  cases h with
  | @mk mb clock es F Hk Hp hm hP hbk hsp hfit htop hwv =>
  have hs := hs.sel hsel
  refine nn_r (add_r (ld_r hs (.head _) rfl ?_))
  refine lkp_r hs (.tail _ (.head _)) hm ?_
  unfold mapF
  cases h1 : σ.pg a with
  | none => rw [h1] at hk; exact fld_r (cs := [int 0, .slice none 0 0, .slice none 0 0, int 0, int 0]) rfl hk
  | some p => rw [h1] at hk; exact fld_r (cs := pgc p (F a)) rfl hk
theorem mapF_set {F : Int → Value × Value} {q : Pg} : fupd (mapF σ F) a (some (.agg (pgc q (F a)).toArray)) = mapF (σ.set a (some q)) F := by
  funext m
  unfold fupd mapF
  rw [set_pg]
  split
  · rename_i e; subst e; rfl
  · rfl
theorem set_some_pg {q : Pg} {m : Int} {r : Pg} (h : (σ.set a (some q)).pg m = some r) : (m = a ∧ r = q) ∨ σ.pg m = some r := by
  rw [set_pg] at h
  split at h
  · rename_i e; cases h; exact .inl ⟨e, rfl⟩
  · exact .inr h
theorem pages_add {x : Int} (hs : Sat G w H) (h : WldR G b bb sb σ wv P Hb) (hsel : Sel Hb H R) (hp : σ.pg a = some p) (hlo : -4611686018427387904 ≤ p.holds + x) (htop2 : p.holds + x ≤ 4611686018427387904)
    (hk : ∀ Hb' w', WldR G b bb sb (σ.add a x) wv P Hb' → Sat G w' (Hb' ++ R) → k (.tuple #[]) w') : call Tryz.prog w 123 [ptr b, int a, int x] k := by
  refine b_pages_Store_add_walk ?_
  unfold b_pages_Store_add
  cases h with
  | @mk mb clock es F Hk Hp hm hP hbk hsp hfit htop hwv =>
  have hs := hs.sel hsel
  obtain ⟨r1, r2⟩ := hP a p hp
  have hf : mapF σ F a = some (.agg (pgc p (F a)).toArray) := by unfold mapF; rw [hp]; rfl
  refine nn_r (add_r (ld_r hs (.head _) rfl ?_))
  refine lkp_r hs (.tail _ (.head _)) hm ?_
  rw [hf]
  dsimp only
  rw [if_neg (by decide)]
  refine new_r (cs := [int 0, .slice none 0 0, .slice none 0 0, int 0, int 0]) hs fun b6 w hs => ?_
  refine stN_r (vs := pgc p (F a)) hs .head rfl (by simp) (pgc_one r1 r2) fun w hs => ?_
  have hs : Sat G w ((b6, row 121 (pgc p (F a))) :: (((b, row 123 [ptr bb, ptr sb, .map (some mb), wv]) :: (mb, Obj.map es.toArray clock) :: (P ++ (Hp ++ Hk))) ++ R)) := hs
  refine add_r (ld_r hs (.head _) rfl (bin_add (by omega) (by omega) (add_r ?_)))
  refine st_r hs .head (by simp) rfl fun w hs => ?_
  have hs : Sat G w ((b6, row 121 (pgc { p with holds := p.holds + x } (F a))) :: (((b, row 123 [ptr bb, ptr sb, .map (some mb), wv]) :: (mb, Obj.map es.toArray clock) :: (P ++ (Hp ++ Hk))) ++ R)) := hs
  refine drawS_r (fun w => Sat G w ((b6, row 121 (pgc { p with holds := p.holds + x } (F a))) :: (((b, row 123 [ptr bb, ptr sb, .map (some mb), wv]) :: (mb, Obj.map es.toArray clock) :: (P ++ (Hp ++ Hk))) ++ R))) hs fun w hs => ?_
  refine nn_r (add_r (held_ld hs (.tail _ (.head _)) rfl ?_))
  refine held_ldN (vs := pgc { p with holds := p.holds + x } (F a)) hs (.head _) rfl rfl ?_
  refine mput_r (R := (b6, row 121 (pgc { p with holds := p.holds + x } (F a))) :: (((b, row 123 [ptr bb, ptr sb, .map (some mb), wv]) :: (P ++ (Hp ++ Hk))) ++ R)) hs (.cons (.cons .head)) hm fun es' clock' w hm' hs => ?_
  rw [mapF_set] at hm'
  have hadd : σ.add a x = σ.set a (some { p with holds := p.holds + x }) := by unfold Sto.add; rw [hp]; rfl
  rw [hadd] at hk
  refine hk ((b, row 123 [ptr bb, ptr sb, .map (some mb), wv]) :: (mb, Obj.map es'.toArray clock') :: (P ++ (Hp ++ Hk))) w (.mk hm' (fun m r hr => ?_) hbk hsp hfit (fun m r hr => ?_) hwv) ((hs.perm (H' := (b6, row 121 (pgc { p with holds := p.holds + x } (F a))) :: (((b, row 123 [ptr bb, ptr sb, .map (some mb), wv]) :: (mb, Obj.map es'.toArray clock') :: (P ++ (Hp ++ Hk))) ++ R)) (by refine perm_of_cnt fun a => ?_; simp only [cnt_app, cnt_cons, cnt_nil] at *; omega)).tail)
  · rcases set_some_pg hr with ⟨rfl, rfl⟩ | hr
    · exact ⟨r1, r2⟩
    · exact hP m r hr
  · rcases set_some_pg hr with ⟨rfl, rfl⟩ | hr
    · exact ⟨htop2, (htop _ p hp).2⟩
    · exact htop m r hr
theorem pages_own {x : Int} (hs : Sat G w H) (h : WldR G b bb sb σ wv P Hb) (hsel : Sel Hb H R) (hp : σ.pg a = some p) (hlo : -4611686018427387904 ≤ p.held + x) (htop2 : p.held + x ≤ 4611686018427387904)
    (hk : ∀ Hb' w', WldR G b bb sb (σ.own a x) wv P Hb' → Sat G w' (Hb' ++ R) → k (.tuple #[]) w') : call Tryz.prog w 124 [ptr b, int a, int x] k := by
  refine b_pages_Store_own_walk ?_
  unfold b_pages_Store_own
  cases h with
  | @mk mb clock es F Hk Hp hm hP hbk hsp hfit htop hwv =>
  have hs := hs.sel hsel
  obtain ⟨r1, r2⟩ := hP a p hp
  have hf : mapF σ F a = some (.agg (pgc p (F a)).toArray) := by unfold mapF; rw [hp]; rfl
  refine nn_r (add_r (ld_r hs (.head _) rfl ?_))
  refine lkp_r hs (.tail _ (.head _)) hm ?_
  rw [hf]
  dsimp only
  rw [if_neg (by decide)]
  refine new_r (cs := [int 0, .slice none 0 0, .slice none 0 0, int 0, int 0]) hs fun b6 w hs => ?_
  refine stN_r (vs := pgc p (F a)) hs .head rfl (by simp) (pgc_one r1 r2) fun w hs => ?_
  have hs : Sat G w ((b6, row 121 (pgc p (F a))) :: (((b, row 123 [ptr bb, ptr sb, .map (some mb), wv]) :: (mb, Obj.map es.toArray clock) :: (P ++ (Hp ++ Hk))) ++ R)) := hs
  refine add_r (ld_r hs (.head _) rfl (bin_add (by omega) (by omega) (add_r ?_)))
  refine st_r hs .head (by simp) rfl fun w hs => ?_
  have hs : Sat G w ((b6, row 121 (pgc { p with held := p.held + x } (F a))) :: (((b, row 123 [ptr bb, ptr sb, .map (some mb), wv]) :: (mb, Obj.map es.toArray clock) :: (P ++ (Hp ++ Hk))) ++ R)) := hs
  refine drawS_r (fun w => Sat G w ((b6, row 121 (pgc { p with held := p.held + x } (F a))) :: (((b, row 123 [ptr bb, ptr sb, .map (some mb), wv]) :: (mb, Obj.map es.toArray clock) :: (P ++ (Hp ++ Hk))) ++ R))) hs fun w hs => ?_
  refine nn_r (add_r (held_ld hs (.tail _ (.head _)) rfl ?_))
  refine held_ldN (vs := pgc { p with held := p.held + x } (F a)) hs (.head _) rfl rfl ?_
  refine mput_r (R := (b6, row 121 (pgc { p with held := p.held + x } (F a))) :: (((b, row 123 [ptr bb, ptr sb, .map (some mb), wv]) :: (P ++ (Hp ++ Hk))) ++ R)) hs (.cons (.cons .head)) hm fun es' clock' w hm' hs => ?_
  rw [mapF_set] at hm'
  have hadd : σ.own a x = σ.set a (some { p with held := p.held + x }) := by unfold Sto.own; rw [hp]; rfl
  rw [hadd] at hk
  refine hk ((b, row 123 [ptr bb, ptr sb, .map (some mb), wv]) :: (mb, Obj.map es'.toArray clock') :: (P ++ (Hp ++ Hk))) w (.mk hm' (fun m r hr => ?_) hbk hsp hfit (fun m r hr => ?_) hwv) ((hs.perm (H' := (b6, row 121 (pgc { p with held := p.held + x } (F a))) :: (((b, row 123 [ptr bb, ptr sb, .map (some mb), wv]) :: (mb, Obj.map es'.toArray clock') :: (P ++ (Hp ++ Hk))) ++ R)) (by refine perm_of_cnt fun a => ?_; simp only [cnt_app, cnt_cons, cnt_nil] at *; omega)).tail)
  · rcases set_some_pg hr with ⟨rfl, rfl⟩ | hr
    · exact ⟨r1, r2⟩
    · exact hP m r hr
  · rcases set_some_pg hr with ⟨rfl, rfl⟩ | hr
    · exact htop _ p hp
    · exact htop m r hr
end
end Go.Proofs.YtemenmmekddjaaaGreatDoor
end
section
namespace Go.Proofs.YtemenmmekddjaaaGreatDoor
open Go Go.Wx Go.W
variable {ω : Go.W.Origin}
section
variable {G H H' R Hb Hv P : List Blk} {w : World} {k : K} {b bb sb : Nat} {σ σ' σ1 : Sto} {wv : Value} {a : Int} {p : Pg}
theorem WldR.top (h : WldR G b bb sb σ wv P Hb) (hp : σ.pg a = some p) : p.holds ≤ 4611686018427387904 := by
  cases h with
  | mk _ _ _ _ _ htop => exact (htop a p hp).1
theorem WldR.len (h : WldR G b bb sb σ wv P Hb) (hp : σ.pg a = some p) : p.n.l.length < 65536 := by
  cases h with
  | mk _ _ _ _ _ htop => exact (htop a p hp).2
theorem kids_len {n : Nd} : (kids n).length ≤ n.l.length := by
  unfold kids; split <;> simp
theorem pages_Hold (hs : Sat G w H) (h : WldR G b bb sb σ wv P Hb) (hsel : Sel Hb H R) (hr : HoldR σ a σ')
    (hk : ∀ Hb' w', WldR G b bb sb σ' wv P Hb' → Sat G w' (Hb' ++ R) → k .nilIface w') : call Tryz.prog w 72 [ptr b, int a] k := by
  refine b_pages_Store_Hold_walk ?_
  unfold b_pages_Store_Hold
  cases hr with
  | @mk p hp q1 q2 q3 q4 =>
  have h' := h
  cases h with
  | @mk mb clock es F Hk Hp hm hP hbk hsp hfit htop hwv =>
  have hs := hs.sel hsel
  obtain ⟨r1, r2⟩ := hP a p hp
  have hf : mapF σ F a = some (.agg (pgc p (F a)).toArray) := by unfold mapF; rw [hp]; rfl
  refine nn_r (add_r (ld_r hs (.head _) rfl ?_))
  refine lkp_r hs (.tail _ (.head _)) hm ?_
  rw [hf]
  dsimp only
  rw [if_pos rfl]
  refine tup_r rfl (tup_r rfl ?_)
  refine new_r (cs := [int 0, .slice none 0 0, .slice none 0 0, int 0, int 0]) hs fun b6 w hs => ?_
  refine stN_r (vs := pgc p (F a)) hs .head rfl (by simp) (pgc_one r1 r2) fun w hs => ?_
  have hs : Sat G w ((b6, row 121 (pgc p (F a))) :: (((b, row 123 [ptr bb, ptr sb, .map (some mb), wv]) :: (mb, Obj.map es.toArray clock) :: (P ++ (Hp ++ Hk))) ++ R)) := hs
  refine un_not (Br_f ?_)
  refine pages_add hs.tail h' .here hp (by omega) (by omega) fun Hb' w h' hs => ?_
  have hp2 : (σ.add a 1).pg a = some { p with holds := p.holds + 1 } := by rw [add_pg, if_pos rfl, hp]; rfl
  exact pages_own hs h' .here hp2 (by simp only; omega) (by simp only; omega) fun Hb' w h' hs => hk Hb' w h' hs
/-- a call of gone, told. -/
def GoneC [Go.W.Origin] (G : List Blk) (b bb sb : Nat) (wv : Value) (P : List Blk) (σ : Sto) (a : Int) (σ' : Sto) : Prop :=
  ∀ (w : World) (H R Hb : List Blk) (k : K), Sat G w H → WldR G b bb sb σ wv P Hb → Sel Hb H R → (∀ Hb' w', WldR G b bb sb σ' wv P Hb' → Sat G w' (Hb' ++ R) → k (.tuple #[]) w') → call Tryz.prog w 125 [ptr b, int a] k
inductive Gone2 [Go.W.Origin] (G : List Blk) (b bb sb : Nat) (wv : Value) (P : List Blk) : Sto → List Int → Sto → Prop
  | nil {σ : Sto} : Gone2 G b bb sb wv P σ [] σ
  | keep {σ σ' : Sto} {a : Int} {l : List Int} {p : Pg} (h : σ.pg a = some p) (h2 : 2 ≤ p.holds) (t : Gone2 G b bb sb wv P (σ.add a (-1)) l σ') : Gone2 G b bb sb wv P σ (a :: l) σ'
  | go {σ σ1 σ' : Sto} {a : Int} {l : List Int} {p : Pg} (h : σ.pg a = some p) (h1 : p.holds = 1) (hc : GoneC G b bb sb wv P (σ.add a (-1)) a σ1) (t : Gone2 G b bb sb wv P σ1 l σ') : Gone2 G b bb sb wv P σ (a :: l) σ'
theorem space_Give2 {ds : List Dev} {was : Option (List Dev)} {i j : Nat} (hs : Sat G w H) (h : Spc G sb ds was Hb) (hsel : Sel Hb H R) (hT : Taken ds a i j)
    (hk : ∀ Hb' w', Spc G sb (giveAt ds was i j) was Hb' → Sat G w' (Hb' ++ R) → k .nilIface w') : call Tryz.prog w 160 [ptr sb, int a] k := by
  obtain ⟨hin, d, hd, htk⟩ := hT
  obtain ⟨hi, rfl⟩ := List.getElem?_eq_some_iff.1 hd
  have e : giveAt ds was i j = ds.set i (ds[i].give (elderAt was i j) j) := by unfold giveAt; rw [hd]
  rw [e] at hk
  exact space_Give hs h hsel hin hi htk hk
theorem giveAt_len {ds : List Dev} {was : Option (List Dev)} {i j : Nat} : (giveAt ds was i j).length = ds.length := by
  unfold giveAt; split <;> simp
theorem giveAt_size {ds : List Dev} {was : Option (List Dev)} {i j m : Nat} (h : m < (giveAt ds was i j).length) (h2 : m < ds.length) : (giveAt ds was i j)[m].size = ds[m].size := by
  have key : (giveAt ds was i j)[m]?.map Dev.size = ds[m]?.map Dev.size := by
    unfold giveAt
    cases hd : ds[i]? with
    | none => rfl
    | some d =>
      obtain ⟨h3, h4⟩ := List.getElem?_eq_some_iff.1 hd
      dsimp only
      by_cases e : i = m
      · subst e
        rw [List.getElem?_set_self h3, hd]
        simp only [Option.map_some, Option.some.injEq]
        unfold Dev.give; split <;> rfl
      · rw [List.getElem?_set_ne e]
  rw [List.getElem?_eq_getElem h, List.getElem?_eq_getElem h2] at key
  simpa using key
theorem gone_walk {i j : Nat} (hp : σ.pg a = some p) (hT : Taken σ.ds a i j) (hg : Gone2 G b bb sb wv P (σ.rm a i j) (kids p.n) σ') : GoneC G b bb sb wv P σ a σ' := by
  intro w H R Hb k hs h hsel hk
  refine b_pages_Store_gone_walk ?_
  unfold b_pages_Store_gone
  cases h with
  | @mk mb clock es F Hk Hp hm hP hbk hsp hfit htop hwv =>
  have hs := hs.sel hsel
  obtain ⟨r1, r2⟩ := hP a p hp
  have hf : mapF σ F a = some (.agg (pgc p (F a)).toArray) := by unfold mapF; rw [hp]; rfl
  refine nn_r (add_r (ld_r hs (.head _) rfl ?_))
  refine lkp_r hs (.tail _ (.head _)) hm ?_
  rw [hf]
  dsimp only
  rw [if_neg (by decide)]
  refine fldN_r (cs := pgc p (F a)) (vs := [int p.n.lv, (F a).1, (F a).2]) rfl ?_
  refine new_r (cs := [int 0, .slice none 0 0, .slice none 0 0]) hs fun b4 w hs => ?_
  refine stN_r (vs := [int p.n.lv, (F a).1, (F a).2]) hs .head rfl (by simp) (fun y hy => by
    simp only [List.mem_cons, List.not_mem_nil, or_false] at hy
    rcases hy with rfl | rfl | rfl
    · rfl
    · exact r1.one
    · exact r2.one) fun w hs => ?_
  have hs : Sat G w ((b4, row 119 [int p.n.lv, (F a).1, (F a).2]) :: (((b, row 123 [ptr bb, ptr sb, .map (some mb), wv]) :: (mb, Obj.map es.toArray clock) :: (P ++ (Hp ++ Hk))) ++ R)) := hs
  refine nn_r (add_r (ld_r hs (.tail _ (.head _)) rfl ?_))
  refine mdel_r (R := (b4, row 119 [int p.n.lv, (F a).1, (F a).2]) :: (((b, row 123 [ptr bb, ptr sb, .map (some mb), wv]) :: (P ++ (Hp ++ Hk))) ++ R)) hs (.cons (.cons .head)) hm fun es' w hm' _ hs => ?_
  refine nn_r (add_r (ld_r hs (.tail _ (.tail _ (.head _))) rfl ?_))
  refine space_Give2 (R := (mb, Obj.map es'.toArray clock) :: (b4, row 119 [int p.n.lv, (F a).1, (F a).2]) :: (((b, row 123 [ptr bb, ptr sb, .map (some mb), wv]) :: (P ++ Hk)) ++ R)) (hs.perm (H' := Hp ++ ((mb, Obj.map es'.toArray clock) :: (b4, row 119 [int p.n.lv, (F a).1, (F a).2]) :: (((b, row 123 [ptr bb, ptr sb, .map (some mb), wv]) :: (P ++ Hk)) ++ R))) (by refine perm_of_cnt fun a => ?_; simp only [cnt_app, cnt_cons, cnt_nil] at *; omega)) hsp .here hT fun Hp' w hsp' hs => ?_
  have hmf : fupd (mapF σ F) a none = mapF (σ.rm a i j) F := by
    funext m
    unfold fupd mapF
    rw [rm_pg]
    split <;> rfl
  rw [hmf] at hm'
  have hW : WldR G b bb sb (σ.rm a i j) wv P ((b, row 123 [ptr bb, ptr sb, .map (some mb), wv]) :: (mb, Obj.map es'.toArray clock) :: (P ++ (Hp' ++ Hk))) := by
    refine .mk hm' (fun m r hr => ?_) hbk hsp' ⟨by show (giveAt _ _ _ _).length ≤ _; rw [giveAt_len]; exact hfit.1, fun m h1 h2 => ?_⟩ (fun m r hr => ?_) hwv
    · rw [rm_pg] at hr; split at hr
      · cases hr
      · exact hP m r hr
    · have h3 : m < σ.ds.length := by rw [← giveAt_len (ds := σ.ds) (was := σ.was) (i := i) (j := j)]; exact h1
      have h4 : (σ.rm a i j).ds[m].size = σ.ds[m].size := giveAt_size h1 h3
      rw [h4]; exact hfit.2 m h3 h2
    · rw [rm_pg] at hr; split at hr
      · cases hr
      · exact htop m r hr
  have hs := hs.perm (H' := (b4, row 119 [int p.n.lv, (F a).1, (F a).2]) :: (((b, row 123 [ptr bb, ptr sb, .map (some mb), wv]) :: (mb, Obj.map es'.toArray clock) :: (P ++ (Hp' ++ Hk))) ++ R)) (by refine perm_of_cnt fun a => ?_; simp only [cnt_app, cnt_cons, cnt_nil] at *; omega)
  generalize ((b, row 123 [ptr bb, ptr sb, .map (some mb), wv]) :: (mb, Obj.map es'.toArray clock) :: (P ++ (Hp' ++ Hk))) = Hb1 at hW hs
  have hPin : ∀ {Hb : List Blk} {σ : Sto}, WldR G b bb sb σ wv P Hb → ∀ q ∈ P, q ∈ Hb := fun h q hq => by
    cases h with
    | mk => simp [hq]
  refine ldN_r (vs := [int p.n.lv, (F a).1, (F a).2]) hs (.head _) rfl rfl ?_
  have hmm : ∀ {Hb : List Blk} {σ : Sto}, WldR G b bb sb σ wv P Hb → ∀ q ∈ P, q ∈ (b4, row 119 [int p.n.lv, (F a).1, (F a).2]) :: (Hb ++ R) := fun h q hq => .tail _ (List.mem_append_left _ (hPin h q hq))
  have hkr : ∃ v, (∀ {H : List Blk}, (∀ q ∈ P, q ∈ H) → Rd 1 v ((kids p.n).map int) H) ∧ v = (if p.n.lv = 0 then .slice none 0 0 else (F a).2) := by
    refine ⟨_, fun {H} hH => ?_, rfl⟩
    unfold kids
    split
    · exact .nil rfl rfl
    · exact r2.mono hH
  obtain ⟨kv, hkr, hkv⟩ := hkr
  refine b_pages_kids_walk ?_
  unfold b_pages_kids
  refine boxA_r (cs := [int p.n.lv, (F a).1, (F a).2]) hs fun b1 w hs => ?_
  have hgo : ∀ w, Sat G w ((b4, row 119 [int p.n.lv, (F a).1, (F a).2]) :: (Hb1 ++ R)) → (W.len w kv fun t27 w =>
      loop [(.int .i64 0)] w fun J1 s1 next1 w =>
      bin w .lss (at' s1 0) t27 fun t29 w =>
      Br t29 (
        idx w 1 kv (at' s1 0) fun t30 w =>
        ld w t30 fun t31 w =>
        call Tryz.prog w 123 [ptr b, t31, (.int .i64 (-1))] fun t34 w =>
        nn w (ptr b) fun t36 w =>
        add w 2 t36 fun t37 w =>
        ld w t37 fun t38 w =>
        lkp w (.agg #[.int .i64 0, .slice none 0 0, .slice none 0 0, .int .i64 0, .int .i64 0]) false t38 t31 fun t40 w =>
        fld w none 3 t40 fun t41 w =>
        bin w .eql t41 (.int .i64 0) fun t42 w =>
        Br t42 (
          call Tryz.prog w 125 [ptr b, t31] fun t45 w =>
          bin w .add (at' s1 0) (.int .i64 1) fun t46 w =>
          next1 [t46] w
        ) (
          bin w .add (at' s1 0) (.int .i64 1) fun t46_1 w =>
          next1 [t46_1] w
        )
      ) (
        k (.tuple #[]) w
      )) := by
    intro w hs
    refine (hkr (H := P) fun _ h => h).len (kids p.n).length (by simp) (by decide) ?_
    have hkl := kids_len (n := p.n)
    have hl8 := (htop a p hp).2
    refine loop_r (fun c vs w => ∃ (i : Nat) (σ1 : Sto) (Hb1 : List Blk), i ≤ (kids p.n).length ∧ vs = [int i] ∧ c = (kids p.n).length - i ∧ Gone2 G b bb sb wv P σ1 ((kids p.n).drop i) σ' ∧ WldR G b bb sb σ1 wv P Hb1 ∧ Sat G w ((b4, row 119 [int p.n.lv, (F a).1, (F a).2]) :: (Hb1 ++ R))) (kids p.n).length ⟨0, _, Hb1, by omega, rfl, rfl, hg, hW, hs⟩ ?_
    rintro J c vs w next ⟨i, σ1, Hb1, hi, rfl, rfl, hg, hW, hs⟩ hnext
    refine bin_lss (Br_d (fun h => ?_) (fun h => ?_))
    · have hi' : i < (kids p.n).length := by
        have : (i : Int) < (kids p.n).length := h
        omega
      refine (hkr (hmm hW)).ld1 hs hi' ?_
      have hdrop : (kids p.n).drop i = (kids p.n)[i] :: (kids p.n).drop (i + 1) := by rw [List.getElem_cons_drop]
      rw [hdrop] at hg
      generalize (kids p.n)[i] = x at hg
      generalize hl : (kids p.n).drop (i + 1) = l at hg
      have step : ∀ σ2, Gone2 G b bb sb wv P σ2 l σ' → ∀ Hb2 w, WldR G b bb sb σ2 wv P Hb2 → Sat G w (Hb2 ++ ((b4, row 119 [int p.n.lv, (F a).1, (F a).2]) :: R)) → next [int ((i : Int) + 1)] w := fun σ2 h2 Hb2 w hW2 hs2 =>
        hnext ((kids p.n).length - (i + 1)) _ _ (by omega) ⟨i + 1, σ2, Hb2, by omega, rfl, rfl, by rw [hl]; exact h2, hW2, hs2.perm (by refine perm_of_cnt fun a => ?_; simp only [cnt_app, cnt_cons, cnt_nil] at *; omega)⟩
      have main : ∀ q : Pg, σ1.pg x = some q → 1 ≤ q.holds → (∀ Hb2 w, WldR G b bb sb (σ1.add x (-1)) wv P Hb2 → Sat G w (Hb2 ++ ((b4, row 119 [int p.n.lv, (F a).1, (F a).2]) :: R)) → (Br (.bool (q.holds + -1 == 0)) (call Tryz.prog w 125 [ptr b, int x] fun t45 w => bin w .add (at' [int i] 0) (.int .i64 1) fun t46 w => next [t46] w) (bin w .add (at' [int i] 0) (.int .i64 1) fun t46_1 w => next [t46_1] w))) →
          (call Tryz.prog w 123 [ptr b, int x, (.int .i64 (-1))] fun t34 w =>
            nn w (ptr b) fun t36 w =>
            add w 2 t36 fun t37 w =>
            ld w t37 fun t38 w =>
            lkp w (.agg #[.int .i64 0, .slice none 0 0, .slice none 0 0, .int .i64 0, .int .i64 0]) false t38 (int x) fun t40 w =>
            fld w none 3 t40 fun t41 w =>
            bin w .eql t41 (.int .i64 0) fun t42 w =>
            Br t42 (call Tryz.prog w 125 [ptr b, int x] fun t45 w => bin w .add (at' [int i] 0) (.int .i64 1) fun t46 w => next [t46] w) (bin w .add (at' [int i] 0) (.int .i64 1) fun t46_1 w => next [t46_1] w)) := by
        intro q hq hq1 hk2
        have htq := hW.top hq
        refine pages_add hs hW (.cons .here) hq (by omega) (by omega) fun Hb2 w hW2 hs => ?_
        have hk2 := hk2 Hb2 w hW2 hs
        have hq2 : (σ1.add x (-1)).pg x = some { q with holds := q.holds + -1 } := by rw [add_pg, if_pos rfl, hq]; rfl
        cases hW2 with
        | @mk mb clock es F2 Hk Hp hm hP hbk hsp hfit htop hwv =>
        refine nn_r (add_r (ld_r hs (.head _) rfl ?_))
        refine lkp_r hs (.tail _ (.head _)) hm ?_
        have hf2 : mapF (σ1.add x (-1)) F2 x = some (.agg (pgc { q with holds := q.holds + -1 } (F2 x)).toArray) := by unfold mapF; rw [hq2]; rfl
        rw [hf2]
        dsimp only
        rw [if_neg (by decide)]
        refine fld_r (cs := pgc { q with holds := q.holds + -1 } (F2 x)) rfl (bin_eql hk2)
      generalize hx : x :: l = xl at hg
      cases hg with
      | nil => cases hx
      | @keep _ _ a' l' q hq hq2 t =>
        cases hx
        refine main q hq (by omega) fun Hb2 w hW2 hs2 => ?_
        refine Br_eq (fun h => by omega) (fun _ => bin_add (by omega) (by omega) (step _ t Hb2 w hW2 hs2))
      | @go _ σ2 _ a' l' q hq hq2 hc t =>
        cases hx
        refine main q hq (by omega) fun Hb2 w hW2 hs2 => ?_
        refine Br_eq (fun _ => ?_) (fun h => by omega)
        refine hc _ _ _ _ _ hs2 hW2 .here fun Hb3 w hW3 hs3 => ?_
        exact bin_add (by omega) (by omega) (step _ t Hb3 w hW3 hs3)
    · have hi' : i = (kids p.n).length := by
        have : ¬ (i : Int) < (kids p.n).length := h
        omega
      subst hi'
      rw [List.drop_length] at hg
      cases hg
      exact hk Hb1 w hW hs.tail
  refine add_r (ld_r hs (.head _) rfl (bin_eql (Br_eq (fun h => ?_) (fun h => ?_))))
  · have : p.n.lv = 0 := by omega
    rw [if_pos this] at hkv
    subst hkv
    exact hgo w hs.tail
  · have : p.n.lv ≠ 0 := by omega
    rw [if_neg this] at hkv
    refine add_r (ld_r hs (.head _) rfl ?_)
    subst hkv
    exact hgo w hs.tail
theorem gone_two (G : List Blk) (b bb sb : Nat) (wv : Value) (P : List Blk) {l : List Int} (h : GoneR σ l σ') : Gone2 G b bb sb wv P σ l σ' := by
  induction h with
  | nil => exact .nil
  | keep h h2 t ih => exact .keep h h2 ih
  | @go σ σ1 σ' a l p i j h h1 hT t1 t ih1 ih =>
    refine .go h h1 ?_ ih
    have hp2 : (σ.add a (-1)).pg a = some { p with holds := p.holds + -1 } := by rw [add_pg, if_pos rfl, h]; rfl
    refine gone_walk hp2 (i := i) (j := j) hT ?_
    rw [add_rm]
    exact ih1
theorem pages_gone {i j : Nat} (hp : σ.pg a = some p) (hT : Taken σ.ds a i j) (hg : GoneR (σ.rm a i j) (kids p.n) σ') : GoneC G b bb sb wv P σ a σ' := gone_walk hp hT (gone_two _ _ _ _ _ _ hg)
theorem pages_Drop (hs : Sat G w H) (h : WldR G b bb sb σ wv P Hb) (hsel : Sel Hb H R) (hr : DropR σ a σ')
    (hk : ∀ Hb' w', WldR G b bb sb σ' wv P Hb' → Sat G w' (Hb' ++ R) → k .nilIface w') : call Tryz.prog w 73 [ptr b, int a] k := by
  refine b_pages_Store_Drop_walk ?_
  unfold b_pages_Store_Drop
  cases hr with
  | @mk p σ' hp q1 q2 t =>
  have h' := h
  cases h with
  | @mk mb clock es F Hk Hp hm hP hbk hsp hfit htop hwv =>
  have hs := hs.sel hsel
  obtain ⟨r1, r2⟩ := hP a p hp
  have hf : mapF σ F a = some (.agg (pgc p (F a)).toArray) := by unfold mapF; rw [hp]; rfl
  refine nn_r (add_r (ld_r hs (.head _) rfl ?_))
  refine lkp_r hs (.tail _ (.head _)) hm ?_
  rw [hf]
  dsimp only
  rw [if_pos rfl]
  refine tup_r rfl (tup_r rfl ?_)
  refine new_r (cs := [int 0, .slice none 0 0, .slice none 0 0, int 0, int 0]) hs fun b6 w hs => ?_
  refine stN_r (vs := pgc p (F a)) hs .head rfl (by simp) (pgc_one r1 r2) fun w hs => ?_
  have hs : Sat G w ((b6, row 121 (pgc p (F a))) :: (((b, row 123 [ptr bb, ptr sb, .map (some mb), wv]) :: (mb, Obj.map es.toArray clock) :: (P ++ (Hp ++ Hk))) ++ R)) := hs
  refine un_not (Br_f ?_)
  refine add_r (ld_r hs (.head _) rfl (bin_eql (Br_eq (fun h => by omega) (fun _ => ?_))))
  have htp := htop a p hp
  refine pages_own (R := (b6, row 121 (pgc p (F a))) :: R) hs h' (.cons .here) hp (by omega) (by omega) fun Hb1 w h1 hs => ?_
  have hp1 : (σ.own a (-1)).pg a = some { p with held := p.held + -1 } := by rw [own_pg, if_pos rfl, hp]; rfl
  generalize hl : [a] = l at t
  cases t with
  | nil => cases hl
  | @keep _ _ a' l' q hq hq2 t =>
    cases hl
    cases t
    rw [hp1] at hq; cases hq
    simp only at hq2
    refine pages_add (R := (b6, row 121 (pgc p (F a))) :: R) hs h1 .here hp1 (by simp only; omega) (by simp only; omega) fun Hb2 w h2 hs => ?_
    refine add_r (ld_r hs (List.mem_append_right _ (.head _)) rfl (bin_eql (Br_eq (fun h => by omega) (fun _ => ?_))))
    exact hk Hb2 w h2 ((hs.perm (H' := (b6, row 121 (pgc p (F a))) :: (Hb2 ++ R)) (by refine perm_of_cnt fun a => ?_; simp only [cnt_app, cnt_cons, cnt_nil] at *; omega)).tail)
  | @go _ σ1 _ a' l' q i j hq hq2 hT t1 t =>
    cases hl
    cases t
    rw [hp1] at hq; cases hq
    simp only at hq2 t1
    refine pages_add (R := (b6, row 121 (pgc p (F a))) :: R) hs h1 .here hp1 (by simp only; omega) (by simp only; omega) fun Hb2 w h2 hs => ?_
    refine add_r (ld_r hs (List.mem_append_right _ (.head _)) rfl (bin_eql (Br_eq (fun _ => ?_) (fun h => by omega))))
    have hp2 : ((σ.own a (-1)).add a (-1)).pg a = some { p with held := p.held + -1, holds := p.holds + -1 } := by rw [add_pg, if_pos rfl, hp1]; rfl
    refine pages_gone hp2 (i := i) (j := j) hT (by rw [add_rm]; exact t1) _ _ _ _ _ hs h2 .here fun Hb3 w h3 hs => ?_
    exact hk Hb3 w h3 ((hs.perm (H' := (b6, row 121 (pgc p (F a))) :: (Hb3 ++ R)) (by refine perm_of_cnt fun a => ?_; simp only [cnt_app, cnt_cons, cnt_nil] at *; omega)).tail)
theorem pages_Scrap_go {i j : Nat} (hs : Sat G w H) (h : WldR G b bb sb σ wv P Hb) (hsel : Sel Hb H R) (hp : σ.pg a = some p) (h0 : p.holds = 0) (hT : Taken σ.ds a i j) (hg : GoneR (σ.rm a i j) (kids p.n) σ')
    (hk : ∀ Hb' w', WldR G b bb sb σ' wv P Hb' → Sat G w' (Hb' ++ R) → k .nilIface w') : call Tryz.prog w 147 [ptr b, int a] k := by
  refine b_pages_Store_Scrap_walk ?_
  unfold b_pages_Store_Scrap
  have h' := h
  cases h with
  | @mk mb clock es F Hk Hp hm hP hbk hsp hfit htop hwv =>
  have hs := hs.sel hsel
  obtain ⟨r1, r2⟩ := hP a p hp
  have hf : mapF σ F a = some (.agg (pgc p (F a)).toArray) := by unfold mapF; rw [hp]; rfl
  refine nn_r (add_r (ld_r hs (.head _) rfl ?_))
  refine lkp_r hs (.tail _ (.head _)) hm ?_
  rw [hf]
  dsimp only
  rw [if_pos rfl]
  refine tup_r rfl (tup_r rfl ?_)
  refine new_r (cs := [int 0, .slice none 0 0, .slice none 0 0, int 0, int 0]) hs fun b6 w hs => ?_
  refine stN_r (vs := pgc p (F a)) hs .head rfl (by simp) (pgc_one r1 r2) fun w hs => ?_
  have hs : Sat G w ((b6, row 121 (pgc p (F a))) :: (((b, row 123 [ptr bb, ptr sb, .map (some mb), wv]) :: (mb, Obj.map es.toArray clock) :: (P ++ (Hp ++ Hk))) ++ R)) := hs
  refine un_not (Br_f ?_)
  refine add_r (ld_r hs (.head _) rfl (bin_gtr (Br_d (fun h => by omega) (fun _ => ?_))))
  refine pages_gone hp hT hg _ _ _ _ _ hs.tail h' .here fun Hb3 w h3 hs => ?_
  exact hk Hb3 w h3 hs
theorem pages_Scrap_none (hs : Sat G w H) (h : WldR G b bb sb σ wv P Hb) (hsel : Sel Hb H R) (hp : σ.pg a = none)
    (hk : ∀ w', Sat G w' H → k (.iface 149 (int 81)) w') : call Tryz.prog w 147 [ptr b, int a] k := by
  refine b_pages_Store_Scrap_walk ?_
  unfold b_pages_Store_Scrap
  have hpm := hsel.perm
  cases h with
  | @mk mb clock es F Hk Hp hm hP hbk hsp hfit htop hwv =>
  have hs := hs.sel hsel
  have hf : mapF σ F a = none := by unfold mapF; rw [hp]; rfl
  refine nn_r (add_r (ld_r hs (.head _) rfl ?_))
  refine lkp_r hs (.tail _ (.head _)) hm ?_
  rw [hf]
  dsimp only
  rw [if_pos rfl]
  refine tup_r rfl (tup_r rfl ?_)
  refine new_r (cs := [int 0, .slice none 0 0, .slice none 0 0, int 0, int 0]) hs fun b6 w hs => ?_
  refine stN_r (vs := [int 0, .slice none 0 0, .slice none 0 0, int 0, int 0]) hs .head rfl (by simp) (by simp [Value.oneCell']) fun w hs => ?_
  exact un_not (Br_t (hk w (hs.tail.perm hpm.symm)))
end
end Go.Proofs.YtemenmmekddjaaaGreatDoor
end
section
namespace Go.Proofs.YtemenmmekddjaaaGreatDoor
open Go Go.Wx Go.W
variable {ω : Go.W.Origin}
section
variable {G H H' R Hb Hv P : List Blk} {w : World} {k : K} {b bb sb : Nat} {σ σ' σ1 : Sto} {wv : Value} {a : Int} {p : Pg}
theorem first_uniq {n s q q' : Nat} {f : Nat → Bool} (h : FirstAt n f s (some q)) (h' : FirstAt n f s (some q')) : q = q' := by
  obtain ⟨a1, a2, a3, a4⟩ := h
  obtain ⟨b1, b2, b3, b4⟩ := h'
  rcases Nat.lt_trichotomy q q' with h | h | h
  · have := b4 q a1 h; rw [this] at a3; cases a3
  · exact h
  · have := a4 q' b1 h; rw [this] at b3; cases b3
theorem pages_named {v : Value} {n : Nd} (hs : Sat G w H) (h : WldR G b bb sb σ wv P Hb) (hsel : Sel Hb H R) (hv : NdV v n H) (hcan : CanPut σ n) (hk : ∀ w', Sat G w' H → k .nilIface w') : call Tryz.prog w 157 [ptr b, v] k := by
  refine b_pages_Store_named_walk ?_
  unfold b_pages_Store_named
  have hpm := hsel.perm
  obtain ⟨kv, vv, rfl, h1, h2⟩ := hv
  have h7 := hcan.1.2.2.1
  have hkl := kids_len (n := n)
  refine box_r hs rfl fun b2 w hs => ?_
  refine boxA_r (cs := [int n.lv, kv, vv]) hs fun b3 w hs => ?_
  have hm2 : ∀ p ∈ H, p ∈ (b3, row 119 [int n.lv, kv, vv]) :: (b2, row 28 [ptr b]) :: H := fun p hp => .tail _ (.tail _ hp)
  have hv' : NdV (.agg #[int n.lv, kv, vv]) n ((b3, row 119 [int n.lv, kv, vv]) :: (b2, row 28 [ptr b]) :: H) := ⟨kv, vv, rfl, h1.mono hm2, h2.mono hm2⟩
  refine ldN_r (vs := [int n.lv, kv, vv]) hs (.head _) rfl rfl ?_
  refine pages_kids hs hv' fun v1 w hr1 hs => ?_
  refine hr1.len (kids n).length (by simp) (by decide) ?_
  cases h with
  | @mk mb clock es F Hk Hp hm hP hbk hsp hfit htop hwv =>
  have hin1 : ∀ q ∈ ((b, row 123 [ptr bb, ptr sb, .map (some mb), wv]) :: (mb, Obj.map es.toArray clock) :: (P ++ (Hp ++ Hk))), q ∈ H := fun q hq => hpm.mem_iff.2 (List.mem_append_left _ hq)
  have i1 := hm2 _ (hin1 _ (List.Mem.head _))
  have i2 := hm2 _ (hin1 _ (List.Mem.tail _ (List.Mem.head _)))
  refine loop_r (fun c vs w => ∃ i : Nat, i ≤ (kids n).length ∧ vs = [int i] ∧ c = (kids n).length - i ∧ Sat G w ((b3, row 119 [int n.lv, kv, vv]) :: (b2, row 28 [ptr b]) :: H)) (kids n).length ⟨0, by omega, rfl, rfl, hs⟩ ?_
  rintro J c vs w next ⟨i, hi, rfl, rfl, hs⟩ hnext
  refine bin_lss (Br_d (fun h => ?_) (fun h => ?_))
  · have hi' : i < (kids n).length := by
      have : (i : Int) < (kids n).length := h
      omega
    obtain ⟨q, hq, hqn⟩ := hcan.2 _ (List.getElem_mem hi')
    have hf : mapF σ F (kids n)[i] = some (.agg (pgc q (F (kids n)[i])).toArray) := by unfold mapF; rw [hq]; rfl
    obtain ⟨r1, r2⟩ := hP _ q hq
    refine hr1.ld1 hs hi' ?_
    refine ld_r hs (.tail _ (.head _)) rfl ?_
    refine nn_r (add_r (ld_r hs i1 rfl ?_))
    refine lkp_r hs i2 hm ?_
    rw [hf]
    dsimp only
    rw [if_pos rfl]
    refine tup_r rfl (tup_r rfl ?_)
    refine new_r (cs := [int 0, .slice none 0 0, .slice none 0 0, int 0, int 0]) hs fun b7 w hs => ?_
    refine stN_r (vs := pgc q (F (kids n)[i])) hs .head rfl (by simp) (pgc_one r1 r2) fun w hs => ?_
    refine un_not (Br_f (bin_add (by omega) (by omega) ?_))
    exact hnext ((kids n).length - (i + 1)) _ _ (by omega) ⟨i + 1, by omega, rfl, rfl, hs.tail⟩
  · refine ldN_r (vs := [int n.lv, kv, vv]) hs (.head _) rfl rfl ?_
    refine pages_kids hs hv' fun v2 w hr2 hs => ?_
    refine slices_ContainsFunc_int_int (l := kids n) (p := fun _ => false) hs (by simpa using hr2) (by omega) (fun x hx w kk hs hkk => ?_) fun w hs => ?_
    · refine callV_r (first := []) (cap := [ptr b2, ptr b3]) (by kernel_rfl) ?_
      refine b_pages_Store_named_c1_walk ?_
      unfold b_pages_Store_named_c1
      obtain ⟨q, hq, hqn⟩ := hcan.2 x hx
      have hf : mapF σ F x = some (.agg (pgc q (F x)).toArray) := by unfold mapF; rw [hq]; rfl
      refine drawS_r (fun w => Sat G w ((b3, row 119 [int n.lv, kv, vv]) :: (b2, row 28 [ptr b]) :: H)) hs fun w hs => ?_
      refine add_r (held_ld hs (.tail _ (.head _)) rfl (nn_r (add_r (held_ld hs i1 rfl (held_lkp hs i2 hm ?_)))))
      rw [hf]
      dsimp only
      rw [if_neg (by decide)]
      refine fldN_r (cs := pgc q (F x)) (vs := [int q.n.lv, (F x).1, (F x).2]) rfl (fld_r (cs := [int q.n.lv, (F x).1, (F x).2]) rfl ?_)
      have hn20 := hcan.1.1
      refine held_ld hs (.head _) rfl (bin_sub (by omega) (by omega) (bin_neq ?_))
      have e : ((q.n.lv : Int) != (n.lv : Int) - 1) = false := by simp; omega
      rw [e]; exact hkk w hs
    · have e : (kids n).any (fun _ => false) = false := by rw [List.any_eq_false]; simp
      rw [e]
      exact Br_f (hk w hs.tail.tail)
theorem takeAt_len {ds : List Dev} {i j : Nat} : (takeAt ds i j).length = ds.length := by
  unfold takeAt; split <;> simp
theorem takeAt_size {ds : List Dev} {i j m : Nat} (h : m < (takeAt ds i j).length) (h2 : m < ds.length) : (takeAt ds i j)[m].size = ds[m].size := by
  have key : (takeAt ds i j)[m]?.map Dev.size = ds[m]?.map Dev.size := by
    unfold takeAt
    cases hd : ds[i]? with
    | none => rfl
    | some d =>
      obtain ⟨h3, h4⟩ := List.getElem?_eq_some_iff.1 hd
      dsimp only
      by_cases e : i = m
      · subst e
        rw [List.getElem?_set_self h3, hd]
        rfl
      · rw [List.getElem?_set_ne e]
  rw [List.getElem?_eq_getElem h, List.getElem?_eq_getElem h2] at key
  simpa using key
theorem writeAt_len {bk : List (List Sec)} {i j : Nat} {bs : List Nat} : (writeAt bk i j bs).length = bk.length := by
  unfold writeAt; split
  · split <;> simp
  · rfl
theorem writeAt_size {bk : List (List Sec)} {i j m : Nat} {bs : List Nat} (h : m < (writeAt bk i j bs).length) (h2 : m < bk.length) : (writeAt bk i j bs)[m].length = bk[m].length := by
  have key : (writeAt bk i j bs)[m]?.map List.length = bk[m]?.map List.length := by
    unfold writeAt
    cases hd : bk[i]? with
    | none => rfl
    | some l =>
      obtain ⟨h3, h4⟩ := List.getElem?_eq_some_iff.1 hd
      dsimp only
      cases hl : l[j]? with
      | none => rfl
      | some s =>
        dsimp only
        by_cases e : i = m
        · subst e
          rw [List.getElem?_set_self h3, hd]
          simp
        · rw [List.getElem?_set_ne e]
  rw [List.getElem?_eq_getElem h, List.getElem?_eq_getElem h2] at key
  simpa using key
theorem pages_Put {v : Value} {n : Nd} {r : Option Int} (hs : Sat G w H) (hT : Tab G) (h : WldR G b bb sb σ wv P Hb) (hsel : Sel Hb H R) (hv0 : NdV v n R) (hcan : CanPut σ n) (hr : PutR σ n σ' r)
    (hk0 : r = none → ∀ Hb' w', WldR G b bb sb σ' wv P Hb' → Sat G w' (Hb' ++ R) → k (.tuple #[int 0, .iface 149 (int 50)]) w')
    (hk : ∀ a, r = some a → ∀ X Hb' w', WldR G b bb sb σ' wv (X ++ P) Hb' → Sat G w' (Hb' ++ R) → k (.tuple #[int a, .nilIface]) w') : call Tryz.prog w 103 [ptr b, v] k := by
  refine b_pages_Store_Put_walk ?_
  unfold b_pages_Store_Put
  have hpm := hsel.perm
  have hv : NdV v n H := hv0.mono fun p hp => hpm.mem_iff.2 (List.mem_append_right _ hp)
  have hn := hcan.1
  have h7 := hn.2.2.1
  have hkl := kids_len (n := n)
  obtain ⟨kv, vv, rfl, h1, h2⟩ := hv
  obtain ⟨kv', vv', hvv, h1r, h2r⟩ := hv0
  obtain ⟨rfl, rfl⟩ : kv = kv' ∧ vv = vv' := by simpa using hvv
  refine boxA_r (cs := [int n.lv, kv, vv]) hs fun b3 w hs => ?_
  have hm2 : ∀ p ∈ H, p ∈ (b3, row 119 [int n.lv, kv, vv]) :: H := fun p hp => .tail _ hp
  have hv' : NdV (.agg #[int n.lv, kv, vv]) n ((b3, row 119 [int n.lv, kv, vv]) :: H) := ⟨kv, vv, rfl, h1.mono hm2, h2.mono hm2⟩
  refine ldN_r (vs := [int n.lv, kv, vv]) hs (.head _) rfl rfl ?_
  refine nd_Bytes hs hv' hn fun vb Xb w hob hs => ?_
  refine tup_r rfl (tup_r rfl (eq_nn (Br_f ?_)))
  refine ldN_r (vs := [int n.lv, kv, vv]) hs (List.mem_append_right _ (.head _)) rfl rfl ?_
  refine pages_named hs h (.app (.cons hsel)) (hv'.mono fun p hp => List.mem_append_right _ hp) hcan fun w hs => ?_
  refine eq_nn (Br_f ?_)
  cases h with
  | @mk mb clock es F Hk Hp hm hP hbk hsp hfit htop hwv =>
  have hs := hs.perm (H' := Hp ++ (Xb ++ ((b3, row 119 [int n.lv, kv, vv]) :: ((b, row 123 [ptr bb, ptr sb, .map (some mb), wv]) :: (mb, Obj.map es.toArray clock) :: (P ++ Hk)) ++ R))) (by refine perm_of_cnt fun a => ?_; have q0 := cnt_perm hpm a; simp only [cnt_app, cnt_cons, cnt_nil] at *; omega)
  have i1 : ∀ {Y : List Blk}, (b, row 123 [ptr bb, ptr sb, .map (some mb), wv]) ∈ Y ++ (Xb ++ ((b3, row 119 [int n.lv, kv, vv]) :: ((b, row 123 [ptr bb, ptr sb, .map (some mb), wv]) :: (mb, Obj.map es.toArray clock) :: (P ++ Hk)) ++ R)) := List.mem_append_right _ (List.mem_append_right _ (.tail _ (.head _)))
  refine nn_r (add_r (ld_r hs i1 rfl ?_))
  refine space_Take hs hT hsp .here (fun hz w hs => ?_) (fun i q Hp' w hi1 hpos hi hact hfirst hsp' hs => ?_)
  · refine tup_r rfl (tup_r rfl (eq_ifn (Br_t ?_)))
    cases hr with
    | full _ =>
      exact hk0 rfl _ w (.mk hm hP hbk hsp hfit htop hwv) ((hs.perm (H' := (Xb ++ [(b3, row 119 [int n.lv, kv, vv])]) ++ (((b, row 123 [ptr bb, ptr sb, .map (some mb), wv]) :: (mb, Obj.map es.toArray clock) :: (P ++ (Hp ++ Hk))) ++ R)) (by refine perm_of_cnt fun a => ?_; simp only [cnt_app, cnt_cons, cnt_nil] at *; omega)).drop)
    | ok ht _ _ => have := ht.2.1; omega
  · refine tup_r rfl (tup_r rfl (eq_nn (Br_f ?_)))
    cases hr with
    | full hz => omega
    | @ok i' q' ht hd hb =>
      obtain ⟨hb1, hb2, d, hdi, hdst, hdf⟩ := ht
      obtain rfl : i = i' := hi1.symm.trans hb1
      rw [List.getElem?_eq_getElem hi] at hdi
      obtain rfl := Option.some.inj hdi
      obtain rfl : q = q' := first_uniq hfirst hdf
      have hq2 : 2 ≤ q := hfirst.1
      have hqs : q < σ.ds[i].size := hfirst.2.1
      have h48 := hsp.size hi
      have h8 := hsp.len8
      have hbi : i < σ.bk.length := Nat.lt_of_lt_of_le hi hfit.1
      have hbq : q < σ.bk[i].length := Nat.lt_of_lt_of_le hqs (hfit.2 i hi hbi)
      have hat : atOf ((i * 4096 + q : Nat) : Int) = ((i : Int), (q : Int)) := by
        unfold atOf
        rw [if_pos (by omega)]
        congr 1 <;> omega
      refine space_At (a := ((i * 4096 + q : Nat) : Int)) ?_
      rw [hat]
      refine tup_r rfl (tup_r rfl ?_)
      refine nn_r (add_r (ld_r hs i1 rfl ?_))
      have hs := hs.perm (H' := Hk ++ (Xb ++ ((b3, row 119 [int n.lv, kv, vv]) :: ((b, row 123 [ptr bb, ptr sb, .map (some mb), wv]) :: (mb, Obj.map es.toArray clock) :: (P ++ Hp')) ++ R))) (by refine perm_of_cnt fun a => ?_; simp only [cnt_app, cnt_cons, cnt_nil] at *; omega)
      refine bank_Write (x1 := .nilIface) (x2 := .nilIface) hs hbk .here hbi hbq (hob.rd fun p hp => List.mem_append_left _ hp) (nodeBytes_len hn) (by omega) fun Hk' w hbk' hs => ?_
      refine eq_nn (Br_f ?_)
      refine drawS_r (fun w => ∃ X, Sat G w (X ++ (Hk' ++ (Xb ++ ((b3, row 119 [int n.lv, kv, vv]) :: ((b, row 123 [ptr bb, ptr sb, .map (some mb), wv]) :: (mb, Obj.map es.toArray clock) :: (P ++ Hp')) ++ R))))) hs fun w hs => ?_
      have hld : ∀ (op : World → K → Prop) (x : Value) (k : K), (∀ X w', Sat G w' (X ++ (Hk' ++ (Xb ++ ((b3, row 119 [int n.lv, kv, vv]) :: ((b, row 123 [ptr bb, ptr sb, .map (some mb), wv]) :: (mb, Obj.map es.toArray clock) :: (P ++ Hp')) ++ R)))) → op w' (fun u w'' => u = x ∧ w'' = w')) → k x w → held (fun w => ∃ X, Sat G w (X ++ (Hk' ++ (Xb ++ ((b3, row 119 [int n.lv, kv, vv]) :: ((b, row 123 [ptr bb, ptr sb, .map (some mb), wv]) :: (mb, Obj.map es.toArray clock) :: (P ++ Hp')) ++ R))))) w (fun w k => op w k) k := fun op x k hx h => ⟨⟨[], hs⟩, _, fun w' ⟨X, hs'⟩ => hx X w' hs', h⟩
      refine nn_r (add_r (hld _ _ _ (fun X w' hs' => ld_r hs' (List.mem_append_right _ (List.mem_append_right _ (List.mem_append_right _ (.tail _ (.head _))))) rfl ⟨rfl, rfl⟩) (hld _ _ _ (fun X w' hs' => ldN_r (vs := [int n.lv, kv, vv]) hs' (List.mem_append_right _ (List.mem_append_right _ (List.mem_append_right _ (.head _)))) rfl rfl ⟨rfl, rfl⟩) ?_)))
      have hmR : ∀ q' ∈ R, q' ∈ Hk' ++ (Xb ++ ((b3, row 119 [int n.lv, kv, vv]) :: ((b, row 123 [ptr bb, ptr sb, .map (some mb), wv]) :: (mb, Obj.map es.toArray clock) :: (P ++ Hp')) ++ R)) := fun q' hq' => by simp [hq']
      refine pages_copied hs ⟨kv, vv, rfl, h1r.mono hmR, h2r.mono hmR⟩ (by omega) fun v3 X w hn3 hs => ⟨⟨X, hs⟩, ?_⟩
      obtain ⟨k3, u3, rfl, g1, g2⟩ := hn3
      refine bld_r (zero := [int 0, .slice none 0 0, .slice none 0 0, int 0, int 0]) (cs := [int n.lv, k3, u3, int 0, int 0]) (by rfl) ?_
      refine mput_r (R := X ++ (Hk' ++ (Xb ++ ((b3, row 119 [int n.lv, kv, vv]) :: ((b, row 123 [ptr bb, ptr sb, .map (some mb), wv]) :: (P ++ Hp')) ++ R)))) hs (.app (.app (.app (.cons (.cons .head))))) hm fun es' clock' w hm' hs => ?_
      generalize ha : ((i * 4096 + q : Nat) : Int) = a at *
      have hF : fupd (mapF σ F) a (some (.agg [int n.lv, k3, u3, int 0, int 0].toArray)) = mapF (σ.set a (some ⟨n, 0, 0⟩)) (fun m => if m = a then (k3, u3) else F m) := by
        funext m
        unfold fupd mapF
        rw [set_pg]
        by_cases e : m = a
        · subst e; simp
        · simp only [if_neg e]
      rw [hF] at hm'
      have htk : takeAt σ.ds i q = σ.ds.set i (σ.ds[i].take q) := by unfold takeAt; rw [List.getElem?_eq_getElem hi]
      have hwr : writeAt σ.bk i q (nodeBytes n) = σ.bk.set i (σ.bk[i].set q { σ.bk[i][q] with wait := σ.bk[i][q].wait ++ [nodeBytes n] }) := by
        unfold writeAt; rw [List.getElem?_eq_getElem hbi]; dsimp only; rw [List.getElem?_eq_getElem hbq]
      rw [← htk] at hsp'
      rw [← hwr] at hbk'
      let σ0 : Sto := { σ.set a (some ⟨n, 0, 0⟩) with ds := takeAt σ.ds i q, bk := writeAt σ.bk i q (nodeBytes n), done := σ.done + 1 }
      have hput : σ.put n i q = σ0.adds (kids n) 1 := by unfold Sto.put; rw [ha]
      have hW : WldR G b bb sb σ0 wv (X ++ P) ((b, row 123 [ptr bb, ptr sb, .map (some mb), wv]) :: (mb, Obj.map es'.toArray clock') :: ((X ++ P) ++ (Hp' ++ Hk'))) := by
        refine .mk hm' (fun m r hr => ?_) hbk' hsp' ⟨by show (takeAt _ _ _).length ≤ (writeAt _ _ _ _).length; rw [takeAt_len, writeAt_len]; exact hfit.1, fun m h1 h2 => ?_⟩ (fun m r hr => ?_) hwv
        · rcases set_some_pg hr with ⟨rfl, rfl⟩ | hr'
          · simp only [if_true]
            exact ⟨g1.mono fun q hq => List.mem_append_left _ hq, g2.mono fun q hq => List.mem_append_left _ hq⟩
          · by_cases e : m = a
            · subst e
              have : (σ.set m (some ⟨n, 0, 0⟩)).pg m = some r := hr
              rw [set_pg, if_pos rfl] at this
              cases this
              simp only [if_true]
              exact ⟨g1.mono fun q hq => List.mem_append_left _ hq, g2.mono fun q hq => List.mem_append_left _ hq⟩
            · simp only [if_neg e]
              obtain ⟨r1, r2⟩ := hP m r hr'
              exact ⟨r1.mono fun q hq => List.mem_append_right _ hq, r2.mono fun q hq => List.mem_append_right _ hq⟩
        · have h3 : m < σ.ds.length := by rw [← takeAt_len (ds := σ.ds) (i := i) (j := q)]; exact h1
          have h4 : m < σ.bk.length := by rw [← writeAt_len (bk := σ.bk) (i := i) (j := q) (bs := nodeBytes n)]; exact h2
          have e1 : σ0.ds[m].size = σ.ds[m].size := takeAt_size h1 h3
          have e2 : σ0.bk[m].length = σ.bk[m].length := writeAt_size h2 h4
          rw [e1, e2]; exact hfit.2 m h3 h4
        · rcases set_some_pg hr with ⟨rfl, rfl⟩ | hr
          · exact ⟨by simp, by simp only; omega⟩
          · exact htop m r hr
      have hs := hs.perm (H' := (b3, row 119 [int n.lv, kv, vv]) :: (((b, row 123 [ptr bb, ptr sb, .map (some mb), wv]) :: (mb, Obj.map es'.toArray clock') :: ((X ++ P) ++ (Hp' ++ Hk'))) ++ (Xb ++ R))) (by refine perm_of_cnt fun a => ?_; simp only [cnt_app, cnt_cons, cnt_nil] at *; omega)
      generalize ((b, row 123 [ptr bb, ptr sb, .map (some mb), wv]) :: (mb, Obj.map es'.toArray clock') :: ((X ++ P) ++ (Hp' ++ Hk'))) = Hb1 at hW hs
      refine ldN_r (vs := [int n.lv, kv, vv]) hs (.head _) rfl rfl ?_
      have hmR2 : ∀ {Hb : List Blk}, ∀ q' ∈ R, q' ∈ (b3, row 119 [int n.lv, kv, vv]) :: (Hb ++ (Xb ++ R)) := fun q' hq' => by simp [hq']
      have hkr : ∀ {Hb : List Blk}, Rd 1 (if n.lv = 0 then .slice none 0 0 else vv) ((kids n).map int) ((b3, row 119 [int n.lv, kv, vv]) :: (Hb ++ (Xb ++ R))) := by
        intro Hb
        unfold kids
        split
        · exact .nil rfl rfl
        · exact h2r.mono hmR2
      refine b_pages_kids_walk ?_
      unfold b_pages_kids
      refine boxA_r (cs := [int n.lv, kv, vv]) hs fun b1 w hs => ?_
      have hpg0 : ∀ k ∈ kids n, ∃ q, σ0.pg k = some q ∧ 0 ≤ q.holds ∧ q.holds ≤ 1099511627776 := by
        intro x hx
        show ∃ q', (if x = a then some (⟨n, 0, 0⟩ : Pg) else σ.pg x) = some q' ∧ _
        by_cases e : x = a
        · rw [if_pos e]; exact ⟨_, rfl, by simp, by simp⟩
        · rw [if_neg e]
          obtain ⟨q', hq', _⟩ := hcan.2 x hx
          exact ⟨q', hq', hb x hx q' hq'⟩
      have hgo : ∀ kvv w, (∀ {Hb : List Blk}, Rd 1 kvv ((kids n).map int) ((b3, row 119 [int n.lv, kv, vv]) :: (Hb ++ (Xb ++ R)))) → Sat G w ((b3, row 119 [int n.lv, kv, vv]) :: (Hb1 ++ (Xb ++ R))) → (W.len w kvv fun t75 w =>
          loop [(.int .i64 0)] w fun J1 s1 next1 w =>
          bin w .lss (at' s1 0) t75 fun t77 w =>
          Br t77 (
            idx w 1 kvv (at' s1 0) fun t78 w =>
            ld w t78 fun t79 w =>
            call Tryz.prog w 123 [ptr b, t79, (.int .i64 1)] fun t82 w =>
            bin w .add (at' s1 0) (.int .i64 1) fun t83 w =>
            next1 [t83] w
          ) (
            k (.tuple #[int a, .nilIface]) w
          )) := by
        intro kvv w hkr hs
        refine (hkr (Hb := Hb1)).len (kids n).length (by simp) (by decide) ?_
        refine loop_r (fun c vs w => ∃ (i : Nat) (Hb1 : List Blk), i ≤ (kids n).length ∧ vs = [int i] ∧ c = (kids n).length - i ∧ WldR G b bb sb (σ0.adds ((kids n).take i) 1) wv (X ++ P) Hb1 ∧ Sat G w ((b3, row 119 [int n.lv, kv, vv]) :: (Hb1 ++ (Xb ++ R)))) (kids n).length ⟨0, Hb1, by omega, rfl, rfl, hW, hs⟩ ?_
        rintro J c vs w next ⟨i, Hb1, hi, rfl, rfl, hW, hs⟩ hnext
        refine bin_lss (Br_d (fun h => ?_) (fun h => ?_))
        · have hi' : i < (kids n).length := by
            have : (i : Int) < (kids n).length := h
            omega
          refine hkr.ld1 hs hi' ?_
          obtain ⟨q0, e1, e2, e3⟩ := hpg0 _ (List.getElem_mem hi')
          have hpq := adds_pg 1 (kids n)[i] ((kids n).take i) σ0
          rw [e1] at hpq
          have hcl := List.count_le_length (a := (kids n)[i]) (l := (kids n).take i)
          rw [List.length_take] at hcl
          refine pages_add hs hW (.cons .here) hpq (by simp only; omega) (by simp only; omega) fun Hb2 w hW2 hs => ?_
          refine bin_add (by omega) (by omega) ?_
          refine hnext ((kids n).length - (i + 1)) _ _ (by omega) ⟨i + 1, Hb2, by omega, rfl, rfl, ?_, hs.perm (by refine perm_of_cnt fun a => ?_; simp only [cnt_app, cnt_cons, cnt_nil] at *; omega)⟩
          have et : (kids n).take (i + 1) = (kids n).take i ++ [(kids n)[i]] := by rw [List.take_add_one, List.getElem?_eq_getElem hi']; rfl
          rw [et]
          unfold Sto.adds
          rw [List.foldl_append]
          exact hW2
        · have hi' : i = (kids n).length := by
            have : ¬ (i : Int) < (kids n).length := h
            omega
          subst hi'
          rw [List.take_length, ← hput] at hW
          exact hk a rfl X Hb1 w hW ((hs.perm (H' := ((b3, row 119 [int n.lv, kv, vv]) :: Xb) ++ (Hb1 ++ R)) (by refine perm_of_cnt fun a => ?_; simp only [cnt_app, cnt_cons, cnt_nil] at *; omega)).drop)
      refine add_r (ld_r hs (.head _) rfl (bin_eql (Br_eq (fun h => ?_) (fun h => ?_))))
      · have h0 : n.lv = 0 := by omega
        exact hgo _ w (fun {Hb} => by have := @hkr Hb; rw [if_pos h0] at this; exact this) hs.tail
      · have h0 : n.lv ≠ 0 := by omega
        refine add_r (ld_r hs (.head _) rfl ?_)
        exact hgo _ w (fun {Hb} => by have := @hkr Hb; rw [if_neg h0] at this; exact this) hs.tail
theorem pages_New (hs : Sat G w H) {ds : List Dev} {was : Option (List Dev)} {bk : List (List Sec)} {done : Nat} {Hp Hk : List Blk} (hsp : Spc G sb ds was Hp) (hbk : BnkR bb bk done Hk) (hsel : Sel (Hp ++ Hk) H R) (hfit : ds.length ≤ bk.length ∧ ∀ i (h : i < ds.length) (h2 : i < bk.length), ds[i].size ≤ bk[i].length)
    (hk : ∀ b Hb w', WldR G b bb sb ⟨fun _ => none, ds, was, bk, done⟩ (.map none) [] Hb → Sat G w' (Hb ++ R) → k (ptr b) w') : call Tryz.prog w 34 [ptr bb, ptr sb] k := by
  refine b_pages_New_walk ?_
  unfold b_pages_New
  have hs := hs.sel hsel
  refine nmap_r hs fun mb w hs => ?_
  refine bld_r (zero := [.pointer none, .pointer none, .map none, .map none]) (cs := [ptr bb, ptr sb, .map (some mb), .map none]) (by rfl) ?_
  refine boxA_r (cs := [ptr bb, ptr sb, .map (some mb), .map none]) hs fun b w hs => ?_
  refine hk b ((b, row 123 [ptr bb, ptr sb, .map (some mb), .map none]) :: (mb, Obj.map ([] : List MapEntry).toArray 0) :: ([] ++ (Hp ++ Hk))) w (.mk (F := fun _ => (.nilIface, .nilIface)) ⟨by simp, by simp, fun n v => by simp [mapF], by simp, by simp⟩ (fun a p h => by cases h) hbk hsp hfit (fun a p h => by cases h) rfl) hs
end
end Go.Proofs.YtemenmmekddjaaaGreatDoor
end
