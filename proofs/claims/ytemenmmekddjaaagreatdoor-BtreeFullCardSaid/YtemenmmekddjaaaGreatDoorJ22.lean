/- A payload as a frame. No condition. The sector of a node. No condition. -/
import Derived.Test.YtemenmmekddjaaaGreatDoorJ16
import Derived.Test.YtemenmmekddjaaaGreatDoorJ20
import Derived.Test.YtemenmmekddjaaaGreatDoorJ21
set_option linter.all false
set_option linter.unusedVariables false
set_option linter.unusedSimpArgs false
set_option linter.unnecessarySimpa false
set_option linter.unusedSectionVars false
set_option linter.constructorNameAsVariable false
section
namespace Go.Proofs.YtemenmmekddjaaaGreatDoor
open Go Go.Wx Go.W
variable {ω : Go.W.Origin}
def frameHead (kind : Nat) (bs : List Nat) : List Nat := kind :: bs.length :: (bs ++ List.replicate (122 - bs.length) 0)
def frameOf (kind : Nat) (bs : List Nat) : List Nat := frameHead kind bs ++ word4 (crcOf (frameHead kind bs)).toNat
section
variable {G H R Hb Hd : List Blk} {w : World} {k : K} {b : Nat} {bs : List Nat}
theorem wr_all (pre mid post vs : List Value) (h : mid.length = vs.length) : wr (pre ++ mid ++ post) pre.length vs = pre ++ vs ++ post := by
  have := wr_append pre (mid ++ post) vs (by simp; omega)
  rw [List.append_assoc, this, List.drop_append, List.drop_eq_nil_of_le (by omega)]
  simp [h]
theorem frameOf_length {kind : Nat} (hl : bs.length ≤ 122) : (frameOf kind bs).length = 128 := by
  simp [frameOf, frameHead, word4]; omega
theorem frame_Put {kind : Nat} {v : Value} (hs : Sat G w H) (hr : Rd 1 v (bs.map u8) H) (hl : bs.length ≤ 122) (hk : ∀ v' Hv' w', Own 5 1 v' ((frameOf kind bs).map u8) Hv' → Sat G w' (Hv' ++ H) → k (.tuple #[v', .nilIface]) w') : call Tryz.prog w 192 [u8 kind, v] k := by
  refine b_frame_Put_walk ?_
  unfold b_frame_Put
  refine hr.len bs.length (by simp) (by decide) ?_
  refine bin_gtr (Br_d (fun h => by omega) (fun _ => ?_))
  refine ⟨.i64, 124, .i64, 128, rfl, rfl, by decide, by decide, by decide, by decide, rfl, ?_⟩
  have hz : zeroRow (128 : Int).toNat (#[Value.int .u8 0] : Array Value).toList = (u8 0 :: u8 0 :: ((List.replicate bs.length 0).map u8 ++ ((List.replicate (122 - bs.length) 0).map u8 ++ (List.replicate 4 0).map u8))).toArray := by
    rw [zeroRow_toList]
    simp only [List.map_replicate, List.replicate_append_replicate]
    rw [show bs.length + (122 - bs.length + 4) = 126 by omega]
    simp [u8, List.replicate]
  rw [hz]
  have hs := hs.alloc (row 5 (u8 0 :: u8 0 :: ((List.replicate bs.length 0).map u8 ++ ((List.replicate (122 - bs.length) 0).map u8 ++ (List.replicate 4 0).map u8))))
  generalize w.heap.size = bg at *
  refine hr.len bs.length (by simp) (by decide) (conv_u8 ?_)
  rw [show bs.length % 256 = bs.length by omega]
  refine idx_r (by decide) (by decide) ?_
  refine st_r hs .head (by simp) rfl fun w hs => ?_
  refine idx_r (by decide) (by decide) ?_
  refine st_r hs .head (by simp) rfl fun w hs => ?_
  have hs : Sat G w ((bg, row 5 ([u8 kind, u8 bs.length] ++ (List.replicate bs.length 0).map u8 ++ ((List.replicate (122 - bs.length) 0).map u8 ++ (List.replicate 4 0).map u8))) :: H) := by simpa using hs
  refine ⟨.slice (some ⟨bg, 2, none⟩) 122 126, rfl, ?_⟩
  have hput := putCells_sat (off := 2) (vs := bs.map u8) hs .head (by simp; omega) bytes_one
  have hwr := wr_all [u8 kind, u8 bs.length] ((List.replicate bs.length 0).map u8) ((List.replicate (122 - bs.length) 0).map u8 ++ (List.replicate 4 0).map u8) (bs.map u8) (by simp)
  simp only [List.length_cons, List.length_nil] at hwr
  have hcell := (hr.mono (H' := _ :: H) fun p hp => .tail _ hp).cells hs
  obtain ⟨a, n, c, rfl⟩ := hr.form
  have hn : n = bs.length := by
    cases hr with
    | nil hv hx => cases hv; simp at hx; simp [hx]
    | some hv hn _ => cases hv; simpa using hn.symm
  subst hn
  have hmin : min bs.length 122 = bs.length := by omega
  refine ⟨_, 122, 126, a, bs.length, c, bs.map u8, _, rfl, rfl, fun ha => ?_, fun ha => ?_, hput.1, ?_⟩
  · subst ha; exact hcell.1
  · cases a with
    | none => exact absurd rfl ha
    | some a => exact ⟨by rw [hmin]; simp, hcell.2⟩
  have ehead : [u8 kind, u8 bs.length] ++ bs.map u8 ++ ((List.replicate (122 - bs.length) 0).map u8 ++ (List.replicate 4 0).map u8) = (frameHead kind bs).map u8 ++ (List.replicate 4 0).map u8 := by
    simp [frameHead]
  have hs := hput.2.perm (H' := (bg, row 5 ((frameHead kind bs).map u8 ++ (List.replicate 4 0).map u8)) :: H) (by rw [← ehead, ← hwr])
  have hlen : (frameHead kind bs).length = 124 := by simp [frameHead]; omega
  refine bldS_r (cs := [.slice (some ⟨bg, 0, none⟩) 124 128]) hs (fill_one rfl) (by decide) fun b9 w hs => ?_
  have ho : Own 5 1 (.slice (some ⟨bg, 0, none⟩) 124 128) ((frameHead kind bs).map u8) [(bg, row 5 ((frameHead kind bs).map u8 ++ (List.replicate 4 0).map u8))] := .some (by simp [hlen]) (by simp [hlen])
  refine frame_Sum (p := .slice (some ⟨bg, 0, none⟩) 124 128) (bs := frameHead kind bs) hs (.some rfl rfl ⟨_, _, .of (.head _), fun x y h => by simpa using h⟩) (ho.rd fun p hp => by simp at hp; simp [hp]) (by omega) ?_
  have hcrc := crc_nonneg (frameHead kind bs)
  obtain ⟨q, hq⟩ : ∃ q : Nat, crcOf (frameHead kind bs) = q := ⟨_, (Int.toNat_of_nonneg hcrc).symm⟩
  rw [hq]
  refine frame_word hs fun vw Hw w how hs => ?_
  obtain ⟨a2, n2, c2, rfl⟩ := how.form
  refine app_r (R := Hw ++ ((b9, row 229 [.slice (some ⟨bg, 0, none⟩) 124 128]) :: H)) hs ho (.app (.cons .here)) ((how.rd fun p hp => List.mem_append_left _ hp).cells hs) bytes_one (by decide) rfl (by decide) (by simp [hlen, word4]) fun v' Hv' w ho' hs => ?_
  refine hk v' Hv' w ?_ ?_
  · have : frameOf kind bs = frameHead kind bs ++ word4 q := by unfold frameOf; rw [hq]; rfl
    rw [this, List.map_append]; exact ho'
  · have := hs.perm (H' := (b9, row 229 [.slice (some ⟨bg, 0, none⟩) 124 128]) :: (Hw ++ (Hv' ++ H))) (by refine perm_of_cnt fun a => ?_; simp only [cnt_app, cnt_cons, cnt_nil] at *; omega)
    exact this.tail.drop
end
end Go.Proofs.YtemenmmekddjaaaGreatDoor
end
section
namespace Go.Proofs.YtemenmmekddjaaaGreatDoor
def nodeBody (n : Nd) : List Nat := [n.lv, n.l.length] ++ (n.l.flatMap fun e => long8 e.1.toNat ++ long8 e.2.toNat)
def nodeBytes (n : Nd) : List Nat := frameOf 2 (nodeBody n)
end Go.Proofs.YtemenmmekddjaaaGreatDoor
end
