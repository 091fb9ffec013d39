/- What the functions of packages disk, bank and fault do. No condition. -/
import Derived.Test.YtemenmmekddjaaaGreatDoorJ10
import Derived.Test.YtemenmmekddjaaaGreatDoorJ15
import Derived.Test.YtemenmmekddjaaaGreatDoorJ16
import Derived.Test.YtemenmmekddjaaaGreatDoorJ17
set_option linter.all false
set_option linter.unusedVariables false
set_option linter.unusedSimpArgs false
set_option linter.unnecessarySimpa false
set_option linter.unusedSectionVars false
set_option linter.constructorNameAsVariable false
namespace Go.Proofs.YtemenmmekddjaaaGreatDoor
open Go Go.Wx Go.W
variable {ω : Go.W.Origin}
@[reducible] def u8 (n : Nat) : Value := .int .u8 (n : Int)
inductive Waits : List Value → List (List Nat) → List Blk → Prop
  | nil : Waits [] [] []
  | snoc {vs : List Value} {bs : List (List Nat)} {H Hv : List Blk} {v : Value} {b : List Nat} (t : Waits vs bs H) (h : Own 5 1 v (b.map u8) Hv) : Waits (vs ++ [v]) (bs ++ [b]) (H ++ Hv)
theorem Waits.length {vs : List Value} {bs : List (List Nat)} {H : List Blk} (h : Waits vs bs H) : vs.length = bs.length := by
  induction h with
  | nil => rfl
  | snoc _ _ ih => simp [ih]
inductive SecR (b : Nat) (s : Sec) : List Blk → Prop
  | mk {vg vw : Value} {vs : List Value} {Hg H1 H2 : List Blk} (hg : Own 5 1 vg (s.good.map u8) Hg) (hw : Own 229 1 vw vs H1) (hws : Waits vs s.wait H2) : SecR b s ((b, row 289 [vg, vw, .bool s.bad]) :: (Hg ++ (H1 ++ H2)))
inductive DskR (b : Nat) (l : List Sec) : List Blk → Prop
  | mk {v : Value} {bs : List Nat} {H1 H2 : List Blk} (ho : Own 286 1 v (bs.map ptr) H1) (hs : Objs SecR bs l H2) : DskR b l ((b, row 246 [v]) :: (H1 ++ H2))
/-- a bank with the power up, and not armed: its devices, and how many writes were done. -/
inductive BnkR (b : Nat) (ds : List (List Sec)) (done : Nat) : List Blk → Prop
  | mk {v : Value} {bs : List Nat} {left : Int} {H1 H2 : List Blk} (ho : Own 187 1 v (bs.map ptr) H1) (hs : Objs DskR bs ds H2) (hw : ∀ d ∈ ds, d.length ≤ 4096 ∧ ∀ s ∈ d, s.wait.length ≤ done) (h8 : ds.length ≤ 8) :
      BnkR b ds done ((b, row 178 [v, .bool false, int left, .bool false, int done]) :: (H1 ++ H2))
section
variable {G H R Hb Hd : List Blk} {w : World} {k : K} {b : Nat}
theorem bytes_Clone {v : Value} {xs : List Value} (hs : Sat G w H) (hr : Rd 1 v xs H) (h1 : ∀ y ∈ xs, y.oneCell' = true) (hl : xs.length ≤ 1073741824)
    (hk : ∀ v' Hv' w', Own 5 1 v' xs Hv' → Sat G w' (Hv' ++ H) → k v' w') : call Tryz.prog w 222 [v] k := by
  refine b_bytes_Clone_walk ?_
  unfold b_bytes_Clone
  cases hr with
  | @nil c hv hx =>
    subst hv; subst hx
    refine eq_slicen (Br_t ?_)
    exact hk _ _ _ .nil (by simpa using hs)
  | @some b o n c hv hn hlies =>
    subst hv
    refine eq_slicen (Br_f ?_)
    refine bldS_r (cs := []) hs rfl (by decide) fun b' w' hs' => ?_
    refine app_r (Hv := [(b', row 5 [])]) (R := H) hs' (Own.some (xs := []) (sp := []) rfl rfl) .here ⟨hn, fun j x hj => ?_⟩ h1 (by decide) rfl (by decide) (by simpa using hl) fun v' Hv' w2 ho hs2 => hk v' Hv' w2 (by simpa using ho) hs2
    obtain ⟨T, cs, h1, h2⟩ := hlies
    rw [Addr.add_lit]
    exact (h1.mono fun p hp => .tail _ hp).cell hs' (h2 _ _ hj)
theorem fault_Wrap_nil {x y z : Value} (hk : k .nilIface w) : call Tryz.prog w 107 [x, y, z, .nilIface] k := by
  refine b_fault_Wrap_walk ?_
  unfold b_fault_Wrap
  exact eq_nn (Br_t hk)
/-- a sector of noughts. -/
def zeroSec : Sec := ⟨List.replicate 128 0, [], false⟩
theorem disk_fresh {n : Nat} (hs : Sat G w H) (hn : n ≤ 4096) (hk : ∀ v bs H1 H2 w', Own 286 1 v (bs.map ptr) H1 → Objs SecR bs (List.replicate n zeroSec) H2 → Sat G w' (H1 ++ (H2 ++ H)) → k v w') : call Tryz.prog w 167 [int n] k := by
  refine b_disk_fresh_walk ?_
  unfold b_disk_fresh
  refine loop_r (fun c vs w => ∃ (i : Nat) (v : Value) (bs : List Nat) (H1 H2 : List Blk), i ≤ n ∧ vs = [v, int i] ∧ c = n - i ∧ Own 286 1 v (bs.map ptr) H1 ∧ Objs SecR bs (List.replicate i zeroSec) H2 ∧ Sat G w (H1 ++ (H2 ++ H))) n ⟨0, _, [], [], [], by omega, rfl, rfl, .nil, .nil, hs⟩ ?_
  rintro J c vs w next ⟨i, v, bs, H1, H2, hi, rfl, rfl, ho, hob, hs⟩ hnext
  refine bin_lss (Br_d (fun h => ?_) (fun h => ?_))
  · have hi' : i < n := by
      have : (i : Int) < n := h
      omega
    have hbl := hob.length
    rw [List.length_replicate] at hbl
    refine ⟨.i64, 128, .i64, 128, rfl, rfl, by decide, by decide, by decide, by decide, rfl, ?_⟩
    have hz : zeroRow (128 : Int).toNat (#[Value.int .u8 0] : Array Value).toList = ((List.replicate 128 0).map u8).toArray := by rw [zeroRow_toList]; simp [u8]
    rw [hz]
    have hs := hs.alloc (row 5 ((List.replicate 128 0).map u8))
    generalize w.heap.size = bg at *
    refine bld_r (zero := [.slice none 0 0, .slice none 0 0, .bool false]) (cs := [.slice (some ⟨bg, 0, none⟩) 128 128, .slice none 0 0, .bool false]) rfl ?_
    refine boxA_r hs fun b1 w hs => ?_
    have hs := hs.perm (H' := H1 ++ ([(b1, row 289 [.slice (some ⟨bg, 0, none⟩) 128 128, .slice none 0 0, .bool false])] ++ [(bg, row 5 ((List.replicate 128 0).map u8))] ++ (H2 ++ H))) (by refine perm_of_cnt fun a => ?_; simp only [cnt_app, cnt_cons, cnt_nil] at *; omega)
    refine app1_r hs ho .here rfl (by decide) (by simp; omega) fun v' H1' w ho' hs => ?_
    have hsec : SecR b1 zeroSec ((b1, row 289 [.slice (some ⟨bg, 0, none⟩) 128 128, .slice none 0 0, .bool false]) :: ([(bg, row 5 ((List.replicate 128 0).map u8))] ++ ([] ++ []))) :=
      .mk (s := zeroSec) (Own.some (xs := (List.replicate 128 0).map u8) (sp := []) (by simp) (by simp)) .nil .nil
    obtain ⟨H2', h1, h2⟩ := hob.append hsec
    rw [← List.replicate_succ'] at h1
    refine bin_add (by omega) (by omega) ?_
    refine hnext (n - (i + 1)) _ _ (by omega) ⟨i + 1, v', bs ++ [b1], H1', H2', by omega, rfl, rfl, by simpa using ho', h1, hs.perm (by refine perm_of_cnt fun a => ?_; have q0 := cnt_perm h2 a; simp only [cnt_app, cnt_cons, cnt_nil] at *; omega)⟩
  · have hi' : i = n := by
      have : ¬ (i : Int) < n := h
      omega
    subst hi'
    exact hk _ _ _ _ _ ho hob hs
theorem disk_New {n : Nat} (hs : Sat G w H) (h1 : 1 ≤ n) (hn : n ≤ 4096) (hk : ∀ b Hd w', DskR b (List.replicate n zeroSec) Hd → Sat G w' (Hd ++ H) → k (.tuple #[ptr b, .nilIface]) w') : call Tryz.prog w 108 [int n] k := by
  refine b_disk_New_walk ?_
  unfold b_disk_New
  refine bin_lss (Br_d (fun h => by omega) (fun _ => ?_))
  refine bin_gtr (Br_d (fun h => by omega) (fun _ => ?_))
  refine disk_fresh hs hn fun v bs H1 H2 w ho hob hs => ?_
  refine bld_r (zero := [.slice none 0 0]) (cs := [v]) (by obtain ⟨a, c, d, rfl⟩ := ho.form; rfl) ?_
  refine boxA_r hs fun b w hs => ?_
  exact hk _ _ _ (.mk ho hob) (hs.perm (by refine perm_of_cnt fun a => ?_; simp only [cnt_app, cnt_cons, cnt_nil] at *; omega))
theorem bank_New (hs : Sat G w H) (hk : ∀ b Hb w', BnkR b [] 0 Hb → Sat G w' (Hb ++ H) → k (ptr b) w') : call Tryz.prog w 40 [] k := by
  refine b_bank_New_walk ?_
  unfold b_bank_New
  refine bld_r (zero := [.slice none 0 0, .bool false, int 0, .bool false, int 0]) (cs := [.slice none 0 0, .bool false, int 0, .bool false, int 0]) rfl ?_
  refine boxA_r hs fun b w hs => ?_
  exact hk b _ w (.mk (bs := []) (H1 := []) (H2 := []) (left := 0) .nil .nil (by simp) (by simp)) hs
theorem bank_Add {ds : List (List Sec)} {done n : Nat} (hs : Sat G w H) (h : BnkR b ds done Hb) (hsel : Sel Hb H R) (hl : ds.length < 8) (h1 : 1 ≤ n) (hn : n ≤ 4096)
    (hk : ∀ Hb' w', BnkR b (ds ++ [List.replicate n zeroSec]) done Hb' → Sat G w' (Hb' ++ R) → k (.tuple #[int ds.length, .nilIface]) w') : call Tryz.prog w 41 [ptr b, int n] k := by
  refine b_bank_Bank_Add_walk ?_
  unfold b_bank_Bank_Add
  have hs := hs.sel hsel
  cases h with
  | @mk v bs left H1 H2 ho hob hw h8 =>
  have hbl := hob.length
  refine nn_r (add_r (ld_r hs (.head _) rfl ?_))
  refine Rd.len (ho.rd (H := H1) fun p hp => hp) ds.length (by simp [hbl]) (by decide) ?_
  refine nn_r (add_r (ld_r hs (.head _) rfl (Br_f ?_)))
  refine bin_geq (Br_d (fun h => by omega) (fun _ => ?_))
  refine disk_New hs h1 hn fun bd Hd w hd hs => ?_
  refine tup_r rfl (tup_r rfl (eq_nn (Br_f ?_)))
  have hs := hs.perm (H' := (b, row 178 [v, .bool false, int left, .bool false, int done]) :: (H1 ++ (Hd ++ (H2 ++ R)))) (by refine perm_of_cnt fun a => ?_; simp only [cnt_app, cnt_cons, cnt_nil] at *; omega)
  refine nn_r (add_r (ld_r hs (.head _) rfl ?_))
  refine app1_r hs ho (.cons .here) rfl (by decide) (by simp; omega) fun v' H1' w ho' hs => ?_
  refine nn_r (add_r ?_)
  have hs := hs.perm (H' := (b, row 178 [v, .bool false, int left, .bool false, int done]) :: (H1' ++ (Hd ++ (H2 ++ R)))) (by refine perm_of_cnt fun a => ?_; simp only [cnt_app, cnt_cons, cnt_nil] at *; omega)
  refine st_r hs .head (by simp) ho'.one fun w hs => ?_
  have hs : Sat G w ((b, row 178 [v', .bool false, int left, .bool false, int done]) :: (H1' ++ (Hd ++ (H2 ++ R)))) := hs
  obtain ⟨H2', h2, h3⟩ := hob.append hd
  refine hk _ _ (.mk (v := v') (bs := bs ++ [bd]) (by simpa using ho') h2 ?_ (by simp; omega)) (hs.perm (H' := (b, row 178 [v', .bool false, int left, .bool false, int done]) :: (H1' ++ H2') ++ R) (by refine perm_of_cnt fun a => ?_; have q0 := cnt_perm h3 a; simp only [cnt_app, cnt_cons, cnt_nil] at *; omega))
  intro d hd
  rcases List.mem_append.1 hd with hd | hd
  · exact hw d hd
  · obtain rfl : d = List.replicate n zeroSec := by simpa using hd
    refine ⟨by simpa using hn, fun s hs => ?_⟩
    rw [List.eq_of_mem_replicate hs]
    simp [zeroSec]
end
end Go.Proofs.YtemenmmekddjaaaGreatDoor
