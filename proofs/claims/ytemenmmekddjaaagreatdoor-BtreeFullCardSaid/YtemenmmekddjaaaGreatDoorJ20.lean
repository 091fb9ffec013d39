/- What the functions of package frame do. No condition. Packing numbers. No condition. The sum of a frame. No condition. -/
import Derived.Test.YtemenmmekddjaaaGreatDoorJ08
import Derived.Test.YtemenmmekddjaaaGreatDoorJ09
import Derived.Test.YtemenmmekddjaaaGreatDoorJ15
import Derived.Test.YtemenmmekddjaaaGreatDoorJ19
set_option linter.all false
set_option linter.unusedVariables false
set_option linter.unusedSimpArgs false
set_option linter.unnecessarySimpa false
set_option linter.unusedSectionVars false
set_option linter.constructorNameAsVariable false
section
namespace Go.Proofs.YtemenmmekddjaaaGreatDoor
open Go Go.Wx Go.W
variable {ω : Go.W.Origin}
theorem shr_int {w : World} {k : K} {a : Nat} {i : Int} {j : IntKind} (h0 : 0 ≤ i) (h1 : i < 64) (hk : k (int ((a / 2 ^ i.toNat : Nat) : Int)) w) : bin w .shr (int a) (.int j i) k := by
  refine ⟨_, if_neg (by omega), ?_⟩
  have : ((a : Int).fdiv (2 ^ min i.toNat IntKind.i64.bits)) = ((a / 2 ^ i.toNat : Nat) : Int) := by
    rw [Int.fdiv_eq_ediv_of_nonneg _ (by exact Int.pow_nonneg (by decide))]
    show (a : Int) / (2 ^ min i.toNat 64) = _
    rw [Nat.min_eq_left (by omega)]; simp
  rw [this]; exact hk
theorem conv_u8 {w : World} {k : K} {a : Nat} {j : IntKind} (hk : k (u8 (a % 256)) w) : conv w .u8 (.int j (a : Int)) k := by
  refine conv_r ?_
  have : IntKind.u8.wrap (a : Int) = ((a % 256 : Nat) : Int) := by simp [IntKind.wrap, IntKind.signed, IntKind.bits]
  rw [this]; exact hk
/-- at b lies a packer with these bytes. -/
inductive PkR (b : Nat) (bs : List Nat) : List Blk → Prop
  | mk {v : Value} {Hv : List Blk} (ho : Own 5 1 v (bs.map u8) Hv) : PkR b bs ((b, row 304 [v, .bool false]) :: Hv)
section
variable {G H R Hb Hd : List Blk} {w : World} {k : K} {b : Nat} {bs : List Nat}
theorem frame_NewPacker (hs : Sat G w H) (hk : ∀ b Hb w', PkR b [] Hb → Sat G w' (Hb ++ H) → k (ptr b) w') : call Tryz.prog w 188 [] k := by
  refine b_frame_NewPacker_walk ?_
  unfold b_frame_NewPacker
  refine bld_r (zero := [.slice none 0 0, .bool false]) (cs := [.slice none 0 0, .bool false]) rfl ?_
  refine boxA_r hs fun b w hs => ?_
  exact hk b _ w (.mk .nil) hs
theorem frame_Bytes (hs : Sat G w H) (h : PkR b bs Hb) (hsel : Sel Hb H R) (hl : bs.length ≤ 65536) (hk : ∀ v Hv w', Own 5 1 v (bs.map u8) Hv → Sat G w' (Hv ++ R) → k (.tuple #[v, .nilIface]) w') : call Tryz.prog w 191 [ptr b] k := by
  refine b_frame_Packer_Bytes_walk ?_
  unfold b_frame_Packer_Bytes
  have hs := hs.sel hsel
  cases h with
  | @mk v Hv ho =>
  refine nn_r (add_r (ld_r hs (.head _) rfl (Br_f ?_)))
  refine nn_r (add_r (ld_r hs (.head _) rfl ?_))
  refine bytes_Clone hs (ho.rd fun p hp => by simp [hp]) ?_ (by simp; omega) fun v2 Hv2 w ho2 hs => ?_
  · intro y hy
    obtain ⟨x, _, rfl⟩ := List.mem_map.1 hy
    rfl
  · have hs := hs.perm (H' := ((b, row 304 [v, .bool false]) :: Hv) ++ (Hv2 ++ R)) (by refine perm_of_cnt fun a => ?_; simp only [cnt_app, cnt_cons, cnt_nil] at *; omega)
    exact hk v2 Hv2 w ho2 hs.drop
/-- a word, in four bytes. -/
def word4 (n : Nat) : List Nat := [n / 2 ^ 24 % 256, n / 2 ^ 16 % 256, n / 2 ^ 8 % 256, n % 256]
theorem shr_u32 {a : Nat} {i : Int} {j : IntKind} (h0 : 0 ≤ i) (h1 : i < 32) (hk : k (.int .u32 ((a / 2 ^ i.toNat : Nat) : Int)) w) : bin w .shr (.int .u32 (a : Int)) (.int j i) k := by
  refine ⟨_, if_neg (by omega), ?_⟩
  have : ((a : Int).fdiv (2 ^ min i.toNat IntKind.u32.bits)) = ((a / 2 ^ i.toNat : Nat) : Int) := by
    rw [Int.fdiv_eq_ediv_of_nonneg _ (by exact Int.pow_nonneg (by decide))]
    show (a : Int) / (2 ^ min i.toNat 32) = _
    rw [Nat.min_eq_left (by omega)]; simp
  rw [this]; exact hk
theorem frame_word {n : Nat} (hs : Sat G w H) (hk : ∀ v Hv w', Own 5 1 v ((word4 n).map u8) Hv → Sat G w' (Hv ++ H) → k v w') : call Tryz.prog w 223 [.int .u32 (n : Int)] k := by
  refine b_frame_word_walk ?_
  unfold b_frame_word
  refine shr_u32 (by decide) (by decide) (conv_u8 ?_)
  refine shr_u32 (by decide) (by decide) (conv_u8 ?_)
  refine shr_u32 (by decide) (by decide) (conv_u8 ?_)
  refine conv_u8 ?_
  refine bldS_r (cs := (word4 n).map u8) hs rfl (by decide) fun b w hs => ?_
  exact hk _ _ _ (.some (sp := []) rfl rfl) (by simpa using hs)
end
end Go.Proofs.YtemenmmekddjaaaGreatDoor
end
section
namespace Go.Proofs.YtemenmmekddjaaaGreatDoor
open Go Go.Wx Go.W
variable {ω : Go.W.Origin}
section
variable {G H R Hb Hd : List Blk} {w : World} {k : K} {b : Nat} {bs : List Nat} {s : Int} {n i : Nat} {t9 t10 : Value} {next : List Value → World → Prop}
/-- the flag is written: all is well. -/
theorem pk_flag {kk : K} (hs : Sat G w (Hb ++ R)) (h : PkR b bs Hb) (hk : ∀ w', Sat G w' (Hb ++ R) → kk undef w') : nn w (ptr b) fun p w => add w 1 p fun q w => st w 1 q (.bool false) kk := by
  cases h with
  | @mk v Hv ho => exact nn_r (add_r (st_r hs .head (by simp) rfl fun w hs => hk w hs))
theorem pk_bad {kk : K} (hs : Sat G w (Hb ++ R)) (h : PkR b bs Hb) (hk : kk (.bool false) w) : nn w (ptr b) fun p w => add w 1 p fun q w => ld w q kk := by
  cases h with
  | @mk v Hv ho => exact nn_r (add_r (ld_r hs (.head _) rfl hk))
theorem put7 (hs : Sat G w (Hb ++ R)) (h : PkR b bs Hb) (hl : bs.length < 65536) (hi : i < 65536)
    (hk : ∀ Hb' w', PkR b (bs ++ [n % 256]) Hb' → Sat G w' (Hb' ++ R) → next [int ((i : Int) + 1)] w') : b_frame_Packer_putj7 (ptr b) (int s) (int n) t9 t10 (int i) next k w := by
  unfold b_frame_Packer_putj7
  cases h with
  | @mk v Hv ho =>
  refine nn_r (add_r (ld_r hs (.head _) rfl (conv_u8 ?_)))
  refine app1_r hs ho (.cons .here) rfl (by decide) (by simp; omega) fun v' Hv' w ho' hs => ?_
  refine nn_r (add_r (st_r hs (.app .head) (by simp) ho'.one fun w hs => ?_))
  refine bin_add (by omega) (by omega) ?_
  exact hk _ _ (.mk (by simpa using ho')) (hs.perm List.perm_middle)
theorem put6 (hs : Sat G w (Hb ++ R)) (h : PkR b bs Hb) (hl : bs.length < 65536) (hi : i < 65536) (hn : s = 1 → n < 256)
    (hk : ∀ Hb' w', PkR b (bs ++ [n % 256]) Hb' → Sat G w' (Hb' ++ R) → next [int ((i : Int) + 1)] w') : b_frame_Packer_putj6 (ptr b) (int s) (int n) t9 t10 (int i) next k w := by
  unfold b_frame_Packer_putj6
  refine pk_bad hs h (Br_f ?_)
  refine bin_lss (Br_d (fun h => by omega) (fun _ => ?_))
  refine bin_eql (Br_eq (fun h1 => ?_) (fun _ => ?_))
  · refine shr_int (by decide) (by decide) ?_
    have := hn h1
    have e : n / 2 ^ (8 : Int).toNat = 0 := Nat.div_eq_of_lt this
    rw [e]
    refine bin_neq ?_
    exact pk_flag hs h fun w hs => put7 hs h hl hi hk
  · exact pk_flag hs h fun w hs => put7 hs h hl hi hk
theorem put4 (hs : Sat G w (Hb ++ R)) (h : PkR b bs Hb) (hl : bs.length < 65000) (hi : i < 65536) (h8 : s = 8)
    (hk : ∀ Hb' w', PkR b (bs ++ [n / 2 ^ 8 % 256, n % 256]) Hb' → Sat G w' (Hb' ++ R) → next [int ((i : Int) + 1)] w') : b_frame_Packer_putj4 (ptr b) (int s) (int n) t9 t10 (int i) next k w := by
  subst h8
  unfold b_frame_Packer_putj4
  refine pk_bad hs h (Br_f ?_)
  refine bin_lss (Br_d (fun h => by omega) (fun _ => ?_))
  refine bin_eql (Br_eq (fun h1 => by omega) (fun _ => ?_))
  refine pk_flag hs h fun w hs => ?_
  unfold b_frame_Packer_putj5
  cases h with
  | @mk v Hv ho =>
  refine nn_r (add_r (ld_r hs (.head _) rfl (shr_int (by decide) (by decide) (conv_u8 ?_))))
  refine app1_r hs ho (.cons .here) rfl (by decide) (by simp; omega) fun v' Hv' w ho' hs => ?_
  refine nn_r (add_r (st_r hs (.app .head) (by simp) ho'.one fun w hs => ?_))
  refine put6 (bs := bs ++ [n / 2 ^ 8 % 256]) (hs.perm List.perm_middle) (.mk (by simpa using ho')) (by simp; omega) hi (fun h => by omega) fun Hb' w hb hs => ?_
  exact hk _ _ (by simpa using hb) hs
theorem put2 (hs : Sat G w (Hb ++ R)) (h : PkR b bs Hb) (hl : bs.length < 64000) (hi : i < 65536) (h8 : s = 8)
    (hk : ∀ Hb' w', PkR b (bs ++ [n / 2 ^ 24 % 256, n / 2 ^ 16 % 256, n / 2 ^ 8 % 256, n % 256]) Hb' → Sat G w' (Hb' ++ R) → next [int ((i : Int) + 1)] w') : b_frame_Packer_putj2 (ptr b) (int s) (int n) t9 t10 (int i) next k w := by
  subst h8
  unfold b_frame_Packer_putj2
  refine pk_bad hs h (Br_f ?_)
  refine bin_lss (Br_d (fun h => by omega) (fun _ => ?_))
  refine bin_eql (Br_eq (fun h1 => by omega) (fun _ => ?_))
  refine pk_flag hs h fun w hs => ?_
  unfold b_frame_Packer_putj3
  cases h with
  | @mk v Hv ho =>
  refine nn_r (add_r (ld_r hs (.head _) rfl (shr_int (by decide) (by decide) (conv_u8 (shr_int (by decide) (by decide) (conv_u8 ?_))))))
  refine bldS_r (cs := [u8 (n / 2 ^ 24 % 256), u8 (n / 2 ^ 16 % 256)]) hs rfl (by decide) fun b9 w hs => ?_
  refine app_r (ys := [u8 (n / 2 ^ 24 % 256), u8 (n / 2 ^ 16 % 256)]) hs ho (.cons (.cons .here)) ⟨rfl, fun x u hx => ?_⟩ (by simp [Value.oneCell']) (by decide) rfl (by decide) (by simp; omega) fun v' Hv' w ho' hs => ?_
  · rw [Addr.add_lit, Nat.zero_add]
    exact cell_row (hs.get (.head _)) hx
  refine nn_r (add_r (st_r hs (.app (.cons .head)) (by simp) ho'.one fun w hs => ?_))
  have hs : Sat G w (Hv' ++ ((b9, row 5 [u8 (n / 2 ^ 24 % 256), u8 (n / 2 ^ 16 % 256)]) :: (b, row 304 [v', .bool false]) :: R)) := hs
  have hs := (hs.perm (H' := (b9, row 5 [u8 (n / 2 ^ 24 % 256), u8 (n / 2 ^ 16 % 256)]) :: (((b, row 304 [v', .bool false]) :: Hv') ++ R)) (by refine perm_of_cnt fun a => ?_; simp only [cnt_app, cnt_cons, cnt_nil] at *; omega)).tail
  refine put4 (bs := bs ++ [n / 2 ^ 24 % 256, n / 2 ^ 16 % 256]) hs (.mk (by simpa using ho')) (by simp; omega) hi rfl fun Hb' w hb hs => ?_
  exact hk _ _ (by simpa using hb) hs
/-- a number in eight bytes. -/
def long8 (n : Nat) : List Nat := [n / 2 ^ 56 % 256, n / 2 ^ 48 % 256, n / 2 ^ 40 % 256, n / 2 ^ 32 % 256, n / 2 ^ 24 % 256, n / 2 ^ 16 % 256, n / 2 ^ 8 % 256, n % 256]
theorem put1 (hs : Sat G w (Hb ++ R)) (h : PkR b bs Hb) (hl : bs.length < 63000) (hi : i < 65536) (h8 : s = 8)
    (hk : ∀ Hb' w', PkR b (bs ++ long8 n) Hb' → Sat G w' (Hb' ++ R) → next [int ((i : Int) + 1)] w') : b_frame_Packer_putj1 (ptr b) (int s) (int n) t9 t10 (int i) next k w := by
  subst h8
  unfold b_frame_Packer_putj1
  cases h with
  | @mk v Hv ho =>
  refine nn_r (add_r (ld_r hs (.head _) rfl (shr_int (by decide) (by decide) (conv_u8 (shr_int (by decide) (by decide) (conv_u8 (shr_int (by decide) (by decide) (conv_u8 (shr_int (by decide) (by decide) (conv_u8 ?_))))))))))
  refine bldS_r (cs := [u8 (n / 2 ^ 56 % 256), u8 (n / 2 ^ 48 % 256), u8 (n / 2 ^ 40 % 256), u8 (n / 2 ^ 32 % 256)]) hs rfl (by decide) fun b9 w hs => ?_
  refine app_r (ys := [u8 (n / 2 ^ 56 % 256), u8 (n / 2 ^ 48 % 256), u8 (n / 2 ^ 40 % 256), u8 (n / 2 ^ 32 % 256)]) hs ho (.cons (.cons .here)) ⟨rfl, fun x u hx => ?_⟩ (by simp [Value.oneCell']) (by decide) rfl (by decide) (by simp; omega) fun v' Hv' w ho' hs => ?_
  · rw [Addr.add_lit, Nat.zero_add]
    exact cell_row (hs.get (.head _)) hx
  refine nn_r (add_r (st_r hs (.app (.cons .head)) (by simp) ho'.one fun w hs => ?_))
  have hs : Sat G w (Hv' ++ ((b9, row 5 [u8 (n / 2 ^ 56 % 256), u8 (n / 2 ^ 48 % 256), u8 (n / 2 ^ 40 % 256), u8 (n / 2 ^ 32 % 256)]) :: (b, row 304 [v', .bool false]) :: R)) := hs
  have hs := (hs.perm (H' := (b9, row 5 [u8 (n / 2 ^ 56 % 256), u8 (n / 2 ^ 48 % 256), u8 (n / 2 ^ 40 % 256), u8 (n / 2 ^ 32 % 256)]) :: (((b, row 304 [v', .bool false]) :: Hv') ++ R)) (by refine perm_of_cnt fun a => ?_; simp only [cnt_app, cnt_cons, cnt_nil] at *; omega)).tail
  refine put2 (bs := bs ++ [n / 2 ^ 56 % 256, n / 2 ^ 48 % 256, n / 2 ^ 40 % 256, n / 2 ^ 32 % 256]) hs (.mk (by simpa using ho')) (by simp; omega) hi rfl fun Hb' w hb hs => ?_
  exact hk _ _ (by simpa [long8] using hb) hs
theorem frame_Long {l : List Nat} {v : Value} (hs : Sat G w H) (h : PkR b bs Hb) (hsel : Sel Hb H R) (hr : Rd 1 v (l.map fun x : Nat => int (x : Int)) R) (hl : bs.length + l.length * 8 < 60000) (hok : ∀ x ∈ l, x ≤ 4611686018427387903)
    (hk : ∀ Hb' w', PkR b (bs ++ l.flatMap fun x => long8 x) Hb' → Sat G w' (Hb' ++ R) → k (ptr b) w') : call Tryz.prog w 190 [ptr b, v] k := by
  refine b_frame_Packer_Long_walk ?_
  unfold b_frame_Packer_Long
  refine b_frame_Packer_put_walk ?_
  unfold b_frame_Packer_put
  have hs := hs.sel hsel
  refine hr.len l.length (by simp) (by decide) ?_
  refine loop_r (fun c vs w => ∃ (i : Nat) (Hb' : List Blk), i ≤ l.length ∧ vs = [int i] ∧ c = l.length - i ∧ PkR b (bs ++ (l.take i).flatMap fun x => long8 x) Hb' ∧ Sat G w (Hb' ++ R)) l.length ⟨0, Hb, by omega, rfl, rfl, by simpa using h, hs⟩ ?_
  rintro J c vs w next ⟨i, Hb', hi, rfl, rfl, hb, hs⟩ hnext
  refine bin_lss (Br_d (fun h => ?_) (fun h => ?_))
  · have hi' : i < l.length := by
      have : (i : Int) < l.length := h
      omega
    have hx := hok _ (List.getElem_mem hi')
    refine (hr.mono (H' := Hb' ++ R) fun p hp => List.mem_append_right _ hp).ld1 hs hi' ?_
    have hlen : ((l.take i).flatMap fun x => long8 x).length ≤ i * 8 := by
      have : ((l.take i).flatMap fun x => long8 x).length = (l.take i).length * 8 := by
        generalize l.take i = m
        induction m with
        | nil => rfl
        | cons a m ih => rw [List.flatMap_cons, List.length_append, ih]; simp [long8]; try omega
      rw [this, List.length_take]
      have : min i l.length ≤ i := Nat.min_le_left _ _
      omega
    have step : (l.take (i + 1)).flatMap (fun x => long8 x) = (l.take i).flatMap (fun x => long8 x) ++ (fun x => long8 x) l[i] := by
      rw [List.take_add_one, List.getElem?_eq_getElem hi', List.flatMap_append]; simp
    have hgo : ∀ Hb2 w', PkR b ((bs ++ (l.take i).flatMap fun x => long8 x) ++ (fun x => long8 x) l[i]) Hb2 → Sat G w' (Hb2 ++ R) → next [int ((i : Int) + 1)] w' := fun Hb2 w' h2 hs2 =>
      hnext (l.length - (i + 1)) _ _ (by omega) ⟨i + 1, Hb2, by omega, rfl, rfl, by rw [step, ← List.append_assoc]; exact h2, hs2⟩
    refine bin_eql (Br_eq (fun h8 => ?_) (fun h8 => ?_))
    · first
        | (exfalso; revert h8; decide)
        | (refine pk_bad hs hb (Br_f ?_)
           refine bin_lss (Br_d (fun h => by omega) (fun _ => ?_))
           refine bin_gtr ?_
           rw [show decide ((l[i] : Int) > 4611686018427387903) = false by simp; omega]
           exact pk_flag hs hb fun w hs => put1 hs hb (by rw [List.length_append]; omega) (by omega) rfl hgo)
    · first
        | (exfalso; exact h8 rfl)
        | (refine bin_eql (Br_eq (fun h => by omega) (fun _ => ?_))
           refine bin_eql (Br_eq (fun h => by omega) (fun _ => ?_))
           exact put6 hs hb (by rw [List.length_append]; omega) (by omega) (fun _ => hx) hgo)
  · have hi' : i = l.length := by
      have : ¬ (i : Int) < l.length := h
      omega
    subst hi'
    rw [List.take_length] at hb
    exact hk _ _ hb hs
theorem frame_Byte {l : List Nat} {v : Value} (hs : Sat G w H) (h : PkR b bs Hb) (hsel : Sel Hb H R) (hr : Rd 1 v (l.map fun x : Nat => int (x : Int)) R) (hl : bs.length + l.length * 8 < 60000) (hok : ∀ x ∈ l, x < 256)
    (hk : ∀ Hb' w', PkR b (bs ++ l.flatMap fun x => [x % 256]) Hb' → Sat G w' (Hb' ++ R) → k (ptr b) w') : call Tryz.prog w 189 [ptr b, v] k := by
  refine b_frame_Packer_Byte_walk ?_
  unfold b_frame_Packer_Byte
  refine b_frame_Packer_put_walk ?_
  unfold b_frame_Packer_put
  have hs := hs.sel hsel
  refine hr.len l.length (by simp) (by decide) ?_
  refine loop_r (fun c vs w => ∃ (i : Nat) (Hb' : List Blk), i ≤ l.length ∧ vs = [int i] ∧ c = l.length - i ∧ PkR b (bs ++ (l.take i).flatMap fun x => [x % 256]) Hb' ∧ Sat G w (Hb' ++ R)) l.length ⟨0, Hb, by omega, rfl, rfl, by simpa using h, hs⟩ ?_
  rintro J c vs w next ⟨i, Hb', hi, rfl, rfl, hb, hs⟩ hnext
  refine bin_lss (Br_d (fun h => ?_) (fun h => ?_))
  · have hi' : i < l.length := by
      have : (i : Int) < l.length := h
      omega
    have hx := hok _ (List.getElem_mem hi')
    refine (hr.mono (H' := Hb' ++ R) fun p hp => List.mem_append_right _ hp).ld1 hs hi' ?_
    have hlen : ((l.take i).flatMap fun x => [x % 256]).length ≤ i * 8 := by
      have : ((l.take i).flatMap fun x => [x % 256]).length = (l.take i).length * 1 := by
        generalize l.take i = m
        induction m with
        | nil => rfl
        | cons a m ih => rw [List.flatMap_cons, List.length_append, ih]; simp [long8]; try omega
      rw [this, List.length_take]
      have : min i l.length ≤ i := Nat.min_le_left _ _
      omega
    have step : (l.take (i + 1)).flatMap (fun x => [x % 256]) = (l.take i).flatMap (fun x => [x % 256]) ++ (fun x => [x % 256]) l[i] := by
      rw [List.take_add_one, List.getElem?_eq_getElem hi', List.flatMap_append]; simp
    have hgo : ∀ Hb2 w', PkR b ((bs ++ (l.take i).flatMap fun x => [x % 256]) ++ (fun x => [x % 256]) l[i]) Hb2 → Sat G w' (Hb2 ++ R) → next [int ((i : Int) + 1)] w' := fun Hb2 w' h2 hs2 =>
      hnext (l.length - (i + 1)) _ _ (by omega) ⟨i + 1, Hb2, by omega, rfl, rfl, by rw [step, ← List.append_assoc]; exact h2, hs2⟩
    refine bin_eql (Br_eq (fun h8 => ?_) (fun h8 => ?_))
    · first
        | (exfalso; revert h8; decide)
        | (refine pk_bad hs hb (Br_f ?_)
           refine bin_lss (Br_d (fun h => by omega) (fun _ => ?_))
           refine bin_gtr ?_
           rw [show decide ((l[i] : Int) > 4611686018427387903) = false by simp; omega]
           exact pk_flag hs hb fun w hs => put1 hs hb (by rw [List.length_append]; omega) (by omega) rfl hgo)
    · first
        | (exfalso; exact h8 rfl)
        | (refine bin_eql (Br_eq (fun h => by omega) (fun _ => ?_))
           refine bin_eql (Br_eq (fun h => by omega) (fun _ => ?_))
           exact put6 hs hb (by rw [List.length_append]; omega) (by omega) (fun _ => hx) hgo)
  · have hi' : i = l.length := by
      have : ¬ (i : Int) < l.length := h
      omega
    subst hi'
    rw [List.take_length] at hb
    exact hk _ _ hb hs
end
end Go.Proofs.YtemenmmekddjaaaGreatDoor
end
section
namespace Go.Proofs.YtemenmmekddjaaaGreatDoor
open Go Go.Wx Go.W
variable {ω : Go.W.Origin}
def crcBit (s : Int) : Int := if bits .and .u32 s 1 = 1 then bits .xor .u32 (s.fdiv (2 ^ min (1 : Int).toNat IntKind.u32.bits)) 3988292384 else s.fdiv (2 ^ min (1 : Int).toNat IntKind.u32.bits)
def crcBits : Nat → Int → Int
  | 0, s => s
  | n + 1, s => crcBits n (crcBit s)
def crcByte (s : Int) (c : Nat) : Int := crcBits 8 (bits .xor .u32 s (IntKind.u32.wrap c))
def crcOf (bs : List Nat) : Int := bits .xor .u32 IntKind.u32.max (bs.foldl crcByte 4294967295)
theorem crc_nonneg (bs : List Nat) : 0 ≤ crcOf bs := by
  unfold crcOf
  generalize bs.foldl crcByte 4294967295 = x
  show 0 ≤ IntKind.u32.wrap ((BitVec.ofInt 32 IntKind.u32.max ^^^ BitVec.ofInt 32 x).toNat : Int)
  simp only [IntKind.wrap, IntKind.signed, IntKind.bits]
  exact Int.emod_nonneg _ (by decide)
section
variable {G H R Hb Hd : List Blk} {w : World} {k : K} {b : Nat} {bs : List Nat}
theorem crcBits_last : ∀ n s, crcBits n (crcBit s) = crcBit (crcBits n s)
  | 0, s => rfl
  | n + 1, s => by rw [crcBits, crcBits_last n]; rfl
theorem frame_Sum {v p : Value} (hs : Sat G w H) (hv : Rd 1 v ([p].map id) H) (hr : Rd 1 p (bs.map u8) H) (hl : bs.length < 65536) (hk : k (.int .u32 (crcOf bs)) w) : call Tryz.prog w 224 [v] k := by
  refine b_frame_Sum_walk ?_
  unfold b_frame_Sum
  refine hv.len 1 rfl (by decide) ?_
  refine loop_r (fun c vs w' => w' = w ∧ ((c = 1 ∧ vs = [.int .u32 4294967295, int 0]) ∨ (c = 0 ∧ vs = [.int .u32 (bs.foldl crcByte 4294967295), int 1]))) 1 ⟨rfl, .inl ⟨rfl, rfl⟩⟩ ?_
  rintro J c vs w' next ⟨rfl, ⟨rfl, rfl⟩ | ⟨rfl, rfl⟩⟩ hnext
  · refine bin_lss (Br_t ?_)
    refine hv.ld1 (i := 0) hs (by simp) ?_
    simp only [List.getElem_cons_zero, id]
    refine hr.len bs.length (by simp) (by decide) ?_
    refine loop_r (fun c vs w2 => w2 = w' ∧ ∃ i : Nat, i ≤ bs.length ∧ c = bs.length - i ∧ vs = [.int .u32 ((bs.take i).foldl crcByte 4294967295), int i]) bs.length ⟨rfl, 0, by omega, rfl, rfl⟩ ?_
    rintro J2 c vs w2 next2 ⟨rfl, i, hi, rfl, rfl⟩ hnext2
    refine bin_lss (Br_d (fun h => ?_) (fun h => ?_))
    · have hi' : i < bs.length := by
        have : (i : Int) < bs.length := h
        omega
      refine hr.ld1 hs hi' (conv_r ?_)
      refine ⟨.int .u32 (bits .xor .u32 ((bs.take i).foldl crcByte 4294967295) (IntKind.u32.wrap (bs[i] : Nat))), by simp [intBin, at'], ?_⟩
      refine loop_r (fun c vs w3 => w3 = w2 ∧ ∃ j : Nat, j ≤ 8 ∧ c = 8 - j ∧ vs = [.int .u32 (crcBits j (bits .xor .u32 ((bs.take i).foldl crcByte 4294967295) (IntKind.u32.wrap (bs[i] : Nat)))), int j]) 8 ⟨rfl, 0, by omega, rfl, rfl⟩ ?_
      rintro J3 c vs w3 next3 ⟨rfl, j, hj, rfl, rfl⟩ hnext3
      generalize hx : bits .xor .u32 ((bs.take i).foldl crcByte 4294967295) (IntKind.u32.wrap (bs[i] : Nat)) = x at *
      refine bin_lss (Br_d (fun h => ?_) (fun h => ?_))
      · have hj' : (j : Int) < 8 := h
        refine ⟨.int .u32 (bits .and .u32 (crcBits j x) 1), by simp [intBin, at'], ?_⟩
        refine ⟨.int .u32 ((crcBits j x).fdiv (2 ^ min (1 : Int).toNat IntKind.u32.bits)), by simp [intBin, at'], ?_⟩
        have e : crcBits (j + 1) x = crcBit (crcBits j x) := by rw [crcBits, crcBits_last]
        refine bin_eql (Br_eq (fun h1 => ?_) (fun h1 => ?_))
        · refine ⟨.int .u32 (bits .xor .u32 ((crcBits j x).fdiv (2 ^ min (1 : Int).toNat IntKind.u32.bits)) 3988292384), by simp [intBin], ?_⟩
          refine bin_add (by omega) (by omega) ?_
          refine hnext3 (8 - (j + 1)) _ _ (by omega) ⟨rfl, j + 1, by omega, rfl, ?_⟩
          rw [e]; unfold crcBit; rw [if_pos h1]; rfl
        · refine bin_add (by omega) (by omega) ?_
          refine hnext3 (8 - (j + 1)) _ _ (by omega) ⟨rfl, j + 1, by omega, rfl, ?_⟩
          rw [e]; unfold crcBit; rw [if_neg h1]; rfl
      · have hj' : ¬ (j : Int) < 8 := h
        obtain rfl : j = 8 := by omega
        refine bin_add (by omega) (by omega) ?_
        refine hnext2 (bs.length - (i + 1)) _ _ (by omega) ⟨rfl, i + 1, by omega, rfl, ?_⟩
        rw [List.take_add_one, List.getElem?_eq_getElem hi', List.foldl_append]
        simp only [Option.toList_some, List.foldl_cons, List.foldl_nil]
        rw [show crcByte ((bs.take i).foldl crcByte 4294967295) bs[i] = crcBits 8 x by rw [← hx]; rfl]; rfl
    · have hi' : i = bs.length := by
        have : ¬ (i : Int) < bs.length := h
        omega
      subst hi'
      refine bin_add (by decide) (by decide) ?_
      refine hnext 0 _ _ (by decide) ⟨rfl, .inr ⟨rfl, ?_⟩⟩
      rw [List.take_length]; rfl
  · refine bin_lss (Br_f ?_)
    exact ⟨_, rfl, hk⟩
end
end Go.Proofs.YtemenmmekddjaaaGreatDoor
end
