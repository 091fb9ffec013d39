/- What writing to a bank does. No condition. -/
import Derived.Test.YtemenmmekddjaaaGreatDoorJ19
set_option linter.all false
set_option linter.unusedVariables false
set_option linter.unusedSimpArgs false
set_option linter.unnecessarySimpa false
set_option linter.unusedSectionVars false
set_option linter.constructorNameAsVariable false
namespace Go.Proofs.YtemenmmekddjaaaGreatDoor
open Go Go.Wx Go.W
variable {ω : Go.W.Origin}
theorem bytes_one {bs : List Nat} : ∀ y ∈ bs.map u8, y.oneCell' = true := by
  intro y hy
  obtain ⟨x, _, rfl⟩ := List.mem_map.1 hy
  rfl
section
variable {G H R Hb Hd : List Blk} {w : World} {k : K} {b : Nat}
theorem disk_Size {l : List Sec} (hs : Sat G w H) (h : DskR b l Hd) (hsel : Sel Hd H R) (hk : k (int l.length) w) : call Tryz.prog w 227 [ptr b] k := by
  refine b_disk_Disk_Size_walk ?_
  unfold b_disk_Disk_Size
  have hs := hs.sel hsel
  cases h with
  | @mk v bs H1 H2 ho hob =>
  refine nn_r (add_r (ld_r hs (.head _) rfl ?_))
  exact Rd.len (ho.rd (H := H1) fun p hp => hp) l.length (by simp [hob.length]) (by decide) hk
theorem disk_has {l : List Sec} {i : Nat} (hs : Sat G w H) (h : DskR b l Hd) (hsel : Sel Hd H R) (hk : k (.bool (decide (i < l.length))) w) : call Tryz.prog w 246 [ptr b, int i] k := by
  refine b_disk_Disk_has_walk ?_
  unfold b_disk_Disk_has
  have hs := hs.sel hsel
  cases h with
  | @mk v bs H1 H2 ho hob =>
  refine bin_geq (Br_d (fun _ => ?_) (fun h => by omega))
  refine nn_r (add_r (ld_r hs (.head _) rfl ?_))
  refine Rd.len (ho.rd (H := H1) fun p hp => hp) l.length (by simp [hob.length]) (by decide) ?_
  refine bin_lss ?_
  have : decide ((i : Int) < (l.length : Int)) = decide (i < l.length) := decide_eq_decide.2 (by omega)
  rw [this]; exact hk
theorem disk_Write {l : List Sec} {i : Nat} {v : Value} {bs : List Nat} (hs : Sat G w H) (h : DskR b l Hd) (hsel : Sel Hd H R) (hi : i < l.length) (hr : Rd 1 v (bs.map u8) R) (hlen : bs.length = 128) (hw : l[i].wait.length < 1073741824)
    (hk : ∀ Hd' w', DskR b (l.set i { l[i] with wait := l[i].wait ++ [bs] }) Hd' → Sat G w' (Hd' ++ R) → k .nilIface w') : call Tryz.prog w 229 [ptr b, int i, v] k := by
  refine b_disk_Disk_Write_walk ?_
  unfold b_disk_Disk_Write
  refine disk_has hs h hsel ?_
  have hs := hs.sel hsel
  rw [show decide (i < l.length) = true by simpa using hi]
  refine un_not (Br_f ?_)
  refine hr.len 128 (by simp [hlen]) (by decide) ?_
  refine bin_neq (Br_ne (fun h => absurd rfl h) (fun _ => ?_))
  cases h with
  | @mk vl bl H1 H2 ho hob =>
  have hbl := hob.length
  refine nn_r (add_r (ld_r hs (.head _) rfl ?_))
  have hrd : Rd 1 vl (bl.map ptr) ((b, row 246 [vl]) :: (H1 ++ H2) ++ R) := ho.rd fun p hp => by simp [hp]
  refine hrd.ld1 hs (show i < bl.length by omega) ?_
  obtain ⟨Hs, Hr, h4, h5, hset⟩ := hob.at i hi (by omega)
  cases hsec : l[i] with
  | mk good wait bad =>
  rw [hsec] at h4 hw hk
  cases h4 with
  | @mk vg vw vs Hg K1 K2 hg hwt hws =>
  have hs := hs.perm (H' := (bl[i], row 289 [vg, vw, .bool bad]) :: (K1 ++ (K2 ++ (Hg ++ ((b, row 246 [vl]) :: (H1 ++ (Hr ++ R))))))) (by refine perm_of_cnt fun a => ?_; have q0 := cnt_perm h5 a; simp only [cnt_app, cnt_cons, cnt_nil] at *; omega)
  refine drawS_r (fun w => Sat G w [(bl[i], row 289 [vg, vw, .bool bad])]) hs fun w hs => ?_
  have hK : ∀ {w : World} {X Y : List Blk}, Sat G w (X ++ ((bl[i], row 289 [vg, vw, .bool bad]) :: Y)) → Sat G w [(bl[i], row 289 [vg, vw, .bool bad])] := fun h => Sat.keep (H := [_]) h.drop
  refine nn_r (add_r (held_ld (hK (X := []) hs) (.head _) rfl ?_))
  refine bytes_Clone hs (hr.mono fun p hp => by simp [hp]) bytes_one (by simp [hlen]) fun v2 Hv2 w ho2 hs => ⟨hK hs, ?_⟩
  refine bldS_r (cs := [v2]) hs (fill_one ho2.one) (by decide) fun b9 w hs => ⟨hK (X := (b9, row 229 [v2]) :: Hv2) hs, ?_⟩
  have hwl := hws.length
  have hwl2 : vs.length = wait.length := hwl
  refine app_r (ys := [v2]) (R := (b9, row 229 [v2]) :: (Hv2 ++ ((bl[i], row 289 [vg, vw, .bool bad]) :: (K2 ++ (Hg ++ ((b, row 246 [vl]) :: (H1 ++ (Hr ++ R)))))))) hs hwt (.cons (.app (.cons .here))) ⟨rfl, fun x u hx => ?_⟩ (fun y hy => by
    have : y = v2 := by simpa using hy
    rw [this]; exact ho2.one) (by decide) rfl (by decide) (by
    have hw : wait.length < 1073741824 := hw
    simp; omega) fun vw' K1' w hwt' hs => ?_
  · rw [Addr.add_lit, Nat.zero_add]
    exact cell_row (hs.get (.head _)) hx
  have hs := hs.perm (H' := (bl[i], row 289 [vg, vw, .bool bad]) :: (b9, row 229 [v2]) :: (K1' ++ ((K2 ++ Hv2) ++ (Hg ++ ((b, row 246 [vl]) :: (H1 ++ (Hr ++ R))))))) (by refine perm_of_cnt fun a => ?_; simp only [cnt_app, cnt_cons, cnt_nil] at *; omega)
  refine nn_r (add_r ?_)
  refine st_r hs .head (by simp) hwt'.one fun w hs => ?_
  have hs : Sat G w ((bl[i], row 289 [vg, vw', .bool bad]) :: (b9, row 229 [v2]) :: (K1' ++ ((K2 ++ Hv2) ++ (Hg ++ ((b, row 246 [vl]) :: (H1 ++ (Hr ++ R))))))) := hs
  have hs := (hs.perm (.swap _ _ _)).tail
  obtain ⟨H2', h6, h7⟩ := hset ⟨good, wait ++ [bs], bad⟩ _ (.mk hg hwt' (.snoc hws ho2))
  exact hk _ _ (.mk ho h6) (hs.perm (H' := (b, row 246 [vl]) :: (H1 ++ H2') ++ R) (by refine perm_of_cnt fun a => ?_; have q0 := cnt_perm h7 a; simp only [cnt_app, cnt_cons, cnt_nil] at *; omega))
theorem bank_Write {ds : List (List Sec)} {done i j : Nat} {v x1 x2 : Value} {bs : List Nat} (hs : Sat G w H) (h : BnkR b ds done Hb) (hsel : Sel Hb H R) (hi : i < ds.length) (hj : j < ds[i].length) (hr : Rd 1 v (bs.map u8) R) (hlen : bs.length = 128) (hd : done < 1073741824)
    (hk : ∀ Hb' w', BnkR b (ds.set i (ds[i].set j { ds[i][j] with wait := ds[i][j].wait ++ [bs] })) (done + 1) Hb' → Sat G w' (Hb' ++ R) → k .nilIface w') : call Tryz.prog w 159 [ptr b, int i, int j, v] k := by
  refine b_bank_Bank_Write_walk ?_
  unfold b_bank_Bank_Write
  refine b_bank_Bank_write_walk ?_
  unfold b_bank_Bank_write
  have hs := hs.sel hsel
  cases h with
  | @mk vl bl left H1 H2 ho hob hw h8 =>
  have hbl := hob.length
  refine b_bank_Bank_live_walk ?_
  unfold b_bank_Bank_live
  refine nn_r (add_r (ld_r hs (.head _) rfl (Br_f ?_)))
  refine b_bank_Bank_device_walk ?_
  unfold b_bank_Bank_device
  refine bin_lss (Br_d (fun h => by omega) (fun _ => ?_))
  refine nn_r (add_r (ld_r hs (.head _) rfl ?_))
  have hrd : Rd 1 vl (bl.map ptr) ((b, row 178 [vl, .bool false, int left, .bool false, int done]) :: (H1 ++ H2) ++ R) := ho.rd fun p hp => by simp [hp]
  refine hrd.len ds.length (by simp [hbl]) (by decide) ?_
  refine bin_geq (Br_d (fun h => by omega) (fun _ => ?_))
  have hi2 : i < bl.length := by omega
  refine nn_r (add_r (ld_r hs (.head _) rfl ?_))
  refine hrd.ld1 hs hi2 ?_
  refine eq_pn (Br_f ?_)
  refine nn_r (add_r (ld_r hs (.head _) rfl ?_))
  refine hrd.ld1 hs hi2 ?_
  refine tup_r rfl (tup_r rfl ?_)
  refine tup_r rfl (tup_r rfl ?_)
  refine eq_nn (Br_f ?_)
  refine bin_lss (Br_d (fun h => by omega) (fun _ => ?_))
  obtain ⟨Hd, Hr, h4, h5, hset⟩ := hob.at i hi hi2
  have hs := hs.perm (H' := Hd ++ ((b, row 178 [vl, .bool false, int left, .bool false, int done]) :: (H1 ++ (Hr ++ R)))) (by refine perm_of_cnt fun a => ?_; have q0 := cnt_perm h5 a; simp only [cnt_app, cnt_cons, cnt_nil] at *; omega)
  refine disk_Size hs h4 .here ?_
  refine bin_geq (Br_d (fun h => by omega) (fun _ => ?_))
  refine hr.len 128 (by simp [hlen]) (by decide) ?_
  refine bin_neq (Br_ne (fun h => absurd rfl h) (fun _ => ?_))
  have hs := hs.perm (H' := (b, row 178 [vl, .bool false, int left, .bool false, int done]) :: (Hd ++ (H1 ++ (Hr ++ R)))) (by refine perm_of_cnt fun a => ?_; simp only [cnt_app, cnt_cons, cnt_nil] at *; omega)
  refine b_bank_Bank_count_walk ?_
  unfold b_bank_Bank_count
  refine nn_r (add_r (ld_r hs (.head _) rfl (Br_f ?_)))
  refine nn_r (add_r (ld_r hs (.head _) rfl (Br_f ?_)))
  unfold b_bank_Bank_countj2
  refine nn_r (add_r (ld_r hs (.head _) rfl ?_))
  refine bin_add (by omega) (by omega) (nn_r (add_r ?_))
  refine st_r hs .head (by simp) rfl fun w hs => ?_
  refine eq_nn (Br_f ?_)
  have hs : Sat G w ((b, row 178 [vl, .bool false, int left, .bool false, int ((done : Int) + 1)]) :: (Hd ++ (H1 ++ (Hr ++ R)))) := hs
  have hwj := (hw _ (List.getElem_mem hi)).2 _ (List.getElem_mem hj)
  refine disk_Write (R := (b, row 178 [vl, .bool false, int left, .bool false, int ((done : Int) + 1)]) :: (H1 ++ (Hr ++ R))) hs h4 (.cons .here) hj (hr.mono fun p hp => by simp [hp]) hlen (by omega) fun Hd' w hd' hs => ?_
  refine fault_Wrap_nil ?_
  obtain ⟨H2', h6, h7⟩ := hset _ _ hd'
  refine hk ((b, row 178 [vl, .bool false, int left, .bool false, int ((done : Int) + 1)]) :: (H1 ++ H2')) _ ?_ (hs.perm (by refine perm_of_cnt fun a => ?_; have q0 := cnt_perm h7 a; simp only [cnt_app, cnt_cons, cnt_nil] at *; omega))
  have := BnkR.mk (b := b) (left := left) (done := done + 1) ho h6 ?_ (by simpa using h8)
  · rw [show ((done + 1 : Nat) : Int) = (done : Int) + 1 by omega] at this; exact this
  · intro d hd
    rcases List.mem_or_eq_of_mem_set hd with hd | rfl
    · exact ⟨(hw d hd).1, fun s hs => by have := (hw d hd).2 s hs; omega⟩
    · refine ⟨by simpa using (hw _ (List.getElem_mem hi)).1, fun s hs => ?_⟩
      rcases List.mem_or_eq_of_mem_set hs with hs | rfl
      · have := (hw _ (List.getElem_mem hi)).2 s hs; omega
      · simp; omega
end
end Go.Proofs.YtemenmmekddjaaaGreatDoor
