/- Counting and finding bits, as the library does it. No condition. What the functions of package bitmap do. No condition. -/
import Derived.Test.YtemenmmekddjaaaGreatDoorJ13
import Derived.Test.YtemenmmekddjaaaGreatDoorJ16
import Derived.Test.YtemenmmekddjaaaGreatDoorJ17
set_option linter.all false
set_option linter.unusedVariables false
set_option linter.unusedSimpArgs false
set_option linter.unnecessarySimpa false
set_option linter.unusedSectionVars false
set_option linter.constructorNameAsVariable false
section
namespace Go.Proofs.YtemenmmekddjaaaGreatDoor
open Go Go.Wx Go.W
variable {ω : Go.W.Origin}
section
variable {G H R Hb : List Blk} {w : World} {k : K}
theorem math_bits_OnesCount64 {x : Nat} (hx : x < 18446744073709551616) (hk : k (int (bitCount x)) w) : call Tryz.prog w 218 [u64 x] k := by
  refine b_math_bits_OnesCount64_walk ?_
  unfold b_math_bits_OnesCount64
  obtain ⟨h8, h14, hs, hs', h3, hc⟩ := count_ok x hx
  have lt : ∀ i, x >>> i < 18446744073709551616 := fun i => Nat.lt_of_le_of_lt (Nat.shiftRight_le _ _) hx
  refine shr_u64 (i := 1) hx (by decide) ?_
  refine and_u64 (b := 6148914691236517205) (lt _) (by decide) ?_
  refine and_u64 (b := 6148914691236517205) hx (by decide) ?_
  refine add_u64 h8 ?_
  refine shr_u64 (i := 2) h8 (by decide) ?_
  refine and_u64 (b := 3689348814741910323) (Nat.lt_of_le_of_lt (Nat.shiftRight_le _ _) h8) (by decide) ?_
  refine and_u64 (b := 3689348814741910323) h8 (by decide) ?_
  refine add_u64 h14 ?_
  refine shr_u64 (i := 4) h14 (by decide) ?_
  refine add_u64 hs ?_
  refine and_u64 (b := 1085102592571150095) hs (by decide) ?_
  simp only [show (1 : Int).toNat = 1 from rfl, show (2 : Int).toNat = 2 from rfl, show (4 : Int).toNat = 4 from rfl]
  generalize ((((x >>> 1 &&& 6148914691236517205) + (x &&& 6148914691236517205)) >>> 2 &&& 3689348814741910323) + ((x >>> 1 &&& 6148914691236517205) + (x &&& 6148914691236517205) &&& 3689348814741910323)) >>> 4 + ((((x >>> 1 &&& 6148914691236517205) + (x &&& 6148914691236517205)) >>> 2 &&& 3689348814741910323) + ((x >>> 1 &&& 6148914691236517205) + (x &&& 6148914691236517205) &&& 3689348814741910323)) &&& 1085102592571150095 = s at *
  have l8 : s >>> 8 ≤ s := Nat.shiftRight_le _ _
  have l16 : (s + s >>> 8) >>> 16 ≤ s + s >>> 8 := Nat.shiftRight_le _ _
  refine shr_u64 (i := 8) (by omega) (by decide) ?_
  refine add_u64 (by show s + s >>> 8 < _; omega) ?_
  refine shr_u64 (i := 16) (by show s + s >>> 8 < _; omega) (by decide) ?_
  refine add_u64 (by show s + s >>> 8 + (s + s >>> 8) >>> 16 < _; omega) ?_
  refine shr_u64 (i := 32) (by show s + s >>> 8 + (s + s >>> 8) >>> 16 < _; omega) (by decide) ?_
  refine add_u64 (by exact Nat.lt_trans h3 (by decide)) ?_
  refine conv_r ?_
  generalize hq : s + s >>> (8 : Int).toNat + (s + s >>> (8 : Int).toNat) >>> (16 : Int).toNat + (s + s >>> (8 : Int).toNat + (s + s >>> (8 : Int).toNat) >>> (16 : Int).toNat) >>> (32 : Int).toNat = q
  have h3 : q < 9223372036854775808 := by rw [← hq]; exact h3
  have hc : q % 128 = bitCount x := by rw [← hq]; exact hc
  rw [wrap64_in (by omega) (by omega)]
  refine ⟨int (bitCount x), ?_, hk⟩
  simp only [intBin, if_true]
  congr 2
  have h1 : (BitVec.ofInt 64 (q : Int)).toNat = q := by
    rw [BitVec.ofInt_natCast, BitVec.toNat_ofNat]; exact Nat.mod_eq_of_lt (by omega)
  show IntKind.i64.wrap ((BitVec.ofInt 64 (q : Int) &&& BitVec.ofInt 64 127).toNat : Int) = _
  rw [BitVec.toNat_and, h1, show (BitVec.ofInt 64 127).toNat = 2 ^ 7 - 1 from rfl, Nat.and_two_pow_sub_one_eq_mod, show (2 : Nat) ^ 7 = 128 from rfl, hc]
  refine wrap64_in (by omega) ?_
  have : bitCount x ≤ 64 := by
    unfold bitCount
    refine Nat.le_trans List.countP_le_length (by simp)
  omega
/-- the library's table for noughts at the end of a word. -/
def Tab (G : List Blk) : Prop := ∃ T, Cel G 0 T (Lib.deBruijn64tab.map fun n => .int .u8 (n : Nat))
theorem math_bits_TrailingZeros64 {x : Nat} (hs : Sat G w H) (hT : Tab G) (h0 : x ≠ 0) (hx : x < 18446744073709551616)
    (hk : ∀ t : Nat, t < 64 → x.testBit t = true → (∀ j, j < t → x.testBit j = false) → k (int t) w) : call Tryz.prog w 183 [u64 x] k := by
  refine b_math_bits_TrailingZeros64_walk ?_
  unfold b_math_bits_TrailingZeros64
  obtain ⟨hlow, ht⟩ := Lib.lowest_bit 64 x h0 hx
  obtain ⟨m, hm, _⟩ := Lib.ctzFrom_spec 64 x (by omega) hx
  have e : Lib.ctz 64 x = Lib.ctzFrom 64 x := by simp [Lib.ctz, h0]
  rw [← e] at hm
  obtain ⟨hi, htab⟩ := Lib.deBruijn64_at _ ht
  generalize Lib.ctz 64 x = t at *
  have hq : ∃ q, 2 ^ t * 285870213051353865 % 18446744073709551616 / 288230376151711744 = q := ⟨_, rfl⟩
  obtain ⟨q, hq⟩ := hq
  rw [hq] at hi htab
  refine bin_eql (Br_eq (fun h => by omega) (fun _ => ?_))
  refine ⟨u64 (18446744073709551616 - x), ?_, ?_⟩
  · simp only [unV]
    congr 2
    rw [IntKind.wrap_u64]; omega
  refine and_u64 hx (by omega) ?_
  rw [show (2 : Nat) ^ 64 = 18446744073709551616 by decide] at hlow
  rw [hlow]
  refine mul_u64 (b := 285870213051353865) ?_
  refine shr_u64 (i := 58) (Nat.mod_lt _ (by decide)) (by decide) ?_
  rw [show ((58 : Int).toNat) = 58 from rfl, Nat.shiftRight_eq_div_pow, show (2 : Nat) ^ 58 = 288230376151711744 by decide]
  rw [hq]
  refine idxA_r (by omega) (by omega) ?_
  obtain ⟨T, hT⟩ := hT
  refine ⟨_, .int .u8 (t : Nat), rfl, hT.cellG hs ?_, ?_⟩
  · have hl : q < Lib.deBruijn64tab.length := hi
    have : Lib.deBruijn64tab[q]? = some t := by
      rw [List.getD, List.getElem?_eq_getElem hl] at htab
      rw [List.getElem?_eq_getElem hl]
      exact congrArg some htab
    rw [List.getElem?_map, Int.toNat_natCast, Nat.zero_add, Nat.mul_one, this]
    rfl
  · refine conv_r ?_
    rw [wrap64_in (by omega) (by omega)]
    refine hk t ht ?_ ?_
    · rw [hm, Nat.mul_comm, Nat.testBit_mul_two_pow]
      simp
    · intro j hj
      rw [hm, Nat.mul_comm, Nat.testBit_mul_two_pow]
      simp; omega
end
end Go.Proofs.YtemenmmekddjaaaGreatDoor
end
section
namespace Go.Proofs.YtemenmmekddjaaaGreatDoor
open Go Go.Wx Go.W
variable {ω : Go.W.Origin}
/-- the words of a map of bits. -/
structure Words (n : Nat) (ws : List Nat) (f : Nat → Bool) : Prop where
  lt : ∀ x ∈ ws, x < 18446744073709551616
  le : n ≤ ws.length * 64
  few : ws.length * 64 < n + 64
  most : n ≤ 4096
  bit : ∀ i, f i = (ws.getD (i / 64) 0).testBit (i % 64)
  off : ∀ i, f i = true → i < n
/-- at b lies a map of the n bits f. -/
inductive Bm (b n : Nat) (f : Nat → Bool) : List Blk → Prop
  | mk {ws : List Nat} {v : Value} {Hw : List Blk} (hw : Words n ws f) (ho : Own 222 1 v (ws.map u64) Hw) : Bm b n f ((b, row 252 [int n, v]) :: Hw)
section
variable {G H R Hb : List Blk} {w : World} {k : K} {b n : Nat} {f : Nat → Bool}
theorem Bm.most (h : Bm b n f Hb) : n ≤ 4096 := by cases h with | mk hw _ => exact hw.most
theorem Bm.off (h : Bm b n f Hb) {i : Nat} (hi : f i = true) : i < n := by cases h with | mk hw _ => exact hw.off i hi
theorem bitmap_Len (hs : Sat G w H) (hb : Bm b n f Hb) (hsel : Sel Hb H R) (hk : k (int n) w) : call Tryz.prog w 143 [ptr b] k := by
  refine b_bitmap_Bitmap_Len_walk ?_
  unfold b_bitmap_Bitmap_Len
  cases hb with
  | @mk ws v Hw hw ho =>
  have hs := hs.sel hsel
  (repeat (first | refine nn_r ?_ | refine add_r ?_ | refine ld_r (by assumption) (by repeat (first | exact List.Mem.head _ | apply List.Mem.tail | apply List.mem_append_right)) rfl ?_ | refine ldG_r (by assumption) (by repeat (first | exact List.Mem.head _ | apply List.Mem.tail | apply List.mem_append_right)) rfl ?_ | refine tup_r rfl ?_ | refine len_r ?_ | refine cap_r ?_ | refine draw_r (by assumption) fun w hs => ?_ | refine drawS_r (fun w => Sat _ w _) (by assumption) fun w hs => ?_ | refine held_ld (by assumption) (by repeat (first | exact List.Mem.head _ | apply List.Mem.tail | apply List.mem_append_right)) rfl ?_))
  exact hk
theorem bitmap_in {i : Int} (hs : Sat G w H) (hb : Bm b n f Hb) (hsel : Sel Hb H R) (hk : k (.bool (decide (0 ≤ i ∧ i < n))) w) : call Tryz.prog w 171 [ptr b, int i] k := by
  refine b_bitmap_Bitmap_in_walk ?_
  unfold b_bitmap_Bitmap_in
  cases hb with
  | @mk ws v Hw hw ho =>
  have hs := hs.sel hsel
  refine bin_geq (Br_d (fun h => ?_) (fun h => ?_))
  · (repeat (first | refine nn_r ?_ | refine add_r ?_ | refine ld_r (by assumption) (by repeat (first | exact List.Mem.head _ | apply List.Mem.tail | apply List.mem_append_right)) rfl ?_ | refine ldG_r (by assumption) (by repeat (first | exact List.Mem.head _ | apply List.Mem.tail | apply List.mem_append_right)) rfl ?_ | refine tup_r rfl ?_ | refine len_r ?_ | refine cap_r ?_ | refine draw_r (by assumption) fun w hs => ?_ | refine drawS_r (fun w => Sat _ w _) (by assumption) fun w hs => ?_ | refine held_ld (by assumption) (by repeat (first | exact List.Mem.head _ | apply List.Mem.tail | apply List.mem_append_right)) rfl ?_))
    refine bin_lss ?_
    have : decide (0 ≤ i ∧ i < n) = decide (i < n) := by simp; omega
    rw [this] at hk; exact hk
  · have : decide (0 ≤ i ∧ i < n) = false := by simp; omega
    rw [this] at hk; exact hk
/-- a word of an owned slice of words. -/
theorem word_ld {ws : List Nat} {v : Value} {Hw : List Blk} {j : Nat} {kk : K} (hs : Sat G w H) (ho : Own 222 1 v (ws.map u64) Hw) (hm : ∀ p ∈ Hw, p ∈ H) (hj : j < ws.length)
    (hk : kk (u64 (ws.getD j 0)) w) : idx w 1 v (int j) fun t w => ld w t kk := by
  generalize hxs : ws.map u64 = xs at ho
  cases ho with
  | nil => simp at hxs; subst hxs; simp at hj
  | @some bw nw cw xs sp hn hc =>
    have hl : ws.length = nw := by rw [← hxs] at hn; simpa using hn
    refine idx_r (by omega) (by omega) ?_
    refine ld_r hs (hm _ (List.Mem.head _)) (v := u64 (ws.getD j 0)) ?_ hk
    rw [← hxs, List.getElem?_append_left (by simp; omega)]
    simp [List.getD, hj]
theorem Words.getD_lt {ws : List Nat} (hw : Words n ws f) (j : Nat) : ws.getD j 0 < 18446744073709551616 := by
  simp only [List.getD]
  cases hj : ws[j]? with
  | none => decide
  | some x => exact hw.lt x (List.mem_of_getElem? hj)
theorem bit_one {x i : Nat} : (((x >>> i % 2 : Nat) : Int) == 1) = x.testBit i := by
  simp only [Nat.testBit, Nat.and_one_is_mod, Nat.one_and_eq_mod_two]
  rcases Nat.mod_two_eq_zero_or_one (x >>> i) with e | e <;> rw [e] <;> rfl
theorem bitmap_Has {i : Int} (hs : Sat G w H) (hb : Bm b n f Hb) (hsel : Sel Hb H R) (hk : k (.bool (decide (0 ≤ i) && f i.toNat)) w) : call Tryz.prog w 112 [ptr b, int i] k := by
  refine b_bitmap_Bitmap_Has_walk ?_
  unfold b_bitmap_Bitmap_Has
  refine bitmap_in hs hb hsel ?_
  cases hb with
  | @mk ws v Hw hw ho =>
  have hs := hs.sel hsel
  refine Br_d (fun h => ?_) (fun h => ?_)
  · (repeat (first | refine nn_r ?_ | refine add_r ?_ | refine ld_r (by assumption) (by repeat (first | exact List.Mem.head _ | apply List.Mem.tail | apply List.mem_append_right)) rfl ?_ | refine ldG_r (by assumption) (by repeat (first | exact List.Mem.head _ | apply List.Mem.tail | apply List.mem_append_right)) rfl ?_ | refine tup_r rfl ?_ | refine len_r ?_ | refine cap_r ?_ | refine draw_r (by assumption) fun w hs => ?_ | refine drawS_r (fun w => Sat _ w _) (by assumption) fun w hs => ?_ | refine held_ld (by assumption) (by repeat (first | exact List.Mem.head _ | apply List.Mem.tail | apply List.mem_append_right)) rfl ?_))
    obtain ⟨j, rfl⟩ : ∃ j : Nat, i = j := ⟨i.toNat, by omega⟩
    have hmost := hw.most
    refine bin_quo (by omega) (by omega) (by omega) ?_
    rw [show ((j : Int) / 64) = ((j / 64 : Nat) : Int) by omega]
    refine word_ld hs ho (fun p hp => by simp [hp]) (by have := hw.le; omega) ?_
    have hlt := hw.getD_lt
    refine bin_rem (by omega) (by omega) ?_
    refine shr_u64 (hlt _) (by omega) ?_
    refine and_u64 (Nat.lt_of_le_of_lt (Nat.shiftRight_le _ _) (hlt _)) (by decide) ?_
    refine bin_eql ?_
    rw [show ((j : Int) % 64).toNat = j % 64 by omega, Nat.and_one_is_mod, bit_one, ← hw.bit]
    simpa using hk
  · have : (decide (0 ≤ i) && f i.toNat) = false := by
      by_cases h0 : 0 ≤ i
      · cases hf : f i.toNat with
        | false => simp
        | true => have := hw.off _ hf; omega
      · simp [h0]
    rw [this] at hk; exact hk
theorem Bm.swap (h : Bm b n f Hb) {f' : Nat → Bool} (he : ∀ i, f i = f' i) : Bm b n f' Hb := by
  have : f = f' := funext he
  rw [← this]; exact h
theorem bitmap_all {i : Int} {v : Value} (hs : Sat G w H) (hb : Bm b n f Hb) (hsel : Sel Hb H R) (hr : Rd 1 v ([i].map int) H)
    (hk : ∀ w', Sat G w' H → k (.bool (decide (0 ≤ i ∧ i < n))) w') : call Tryz.prog w 172 [ptr b, v] k := by
  refine b_bitmap_Bitmap_all_walk ?_
  unfold b_bitmap_Bitmap_all
  refine box_r hs rfl fun b' w hs => ?_
  refine slices_ContainsFunc_int_int (p := fun x => !decide (0 ≤ x ∧ x < n)) hs (hr.mono fun p hp => .tail _ hp) (by simp) (fun x _ w kk hs hk => ?_) fun w hs => ?_
  · refine callV_r (first := []) (cap := [ptr b']) (by kernel_rfl) ?_
    refine b_bitmap_Bitmap_all_c1_walk ?_
    unfold b_bitmap_Bitmap_all_c1
    refine ld_r hs (.head _) rfl ?_
    refine bitmap_in hs hb (.cons hsel) ?_
    refine un_not ?_
    exact hk _ hs
  · refine un_not ?_
    simp only [List.any_cons, List.any_nil, Bool.or_false, Bool.not_not]
    exact hk _ hs.tail
theorem word_bit {x i j : Nat} (hi : i < 64) (hj : j < 64) : ((x ||| 2 ^ i).testBit j = (x.testBit j || decide (i = j))) := by
  rw [Nat.testBit_or, Nat.testBit_two_pow]
theorem Words.upd {ws : List Nat} (hw : Words n ws f) {i : Nat} (hi : i < n) {x : Nat} (hx : x < 18446744073709551616) {f' : Nat → Bool}
    (h1 : ∀ j, j / 64 = i / 64 → f' j = x.testBit (j % 64)) (h2 : ∀ j, j / 64 ≠ i / 64 → f' j = f j) (h3 : ∀ j, f' j = true → j < n) : Words n (ws.set (i / 64) x) f' where
  lt y hy := by
    rcases List.mem_or_eq_of_mem_set hy with h | h
    · exact hw.lt y h
    · rw [h]; exact hx
  le := by simpa using hw.le
  few := by simpa using hw.few
  most := hw.most
  off := h3
  bit j := by
    have hl : i / 64 < ws.length := by have := hw.le; omega
    by_cases hj : j / 64 = i / 64
    · rw [h1 j hj, hj]; simp [List.getD, hl]
    · rw [h2 j hj, hw.bit]; simp [List.getD, Ne.symm hj]
theorem own_words {ws : List Nat} {v : Value} {Hw : List Blk} (ho : Own 222 1 v (ws.map u64) Hw) : Rd 1 v (ws.map fun x => u64 x) (Hw ++ R) := ho.rd fun p hp => List.mem_append_left _ hp
theorem bitmap_Set {i : Int} {v : Value} (hs : Sat G w H) (hb : Bm b n f Hb) (hsel : Sel Hb H R) (hr : Rd 1 v ([i].map int) R) (h0 : 0 ≤ i) (h1 : i < n)
    (hk : ∀ Hb' w', Bm b n (fun j => (f j || decide ((j : Int) = i))) Hb' → Sat G w' (Hb' ++ R) → k .nilIface w') : call Tryz.prog w 196 [ptr b, v] k := by
  refine b_bitmap_Bitmap_Set_walk ?_
  unfold b_bitmap_Bitmap_Set
  have hs := hs.sel hsel
  refine bitmap_all hs hb .here (hr.mono fun p hp => List.mem_append_right _ hp) fun w hs => ?_
  refine un_not ?_
  refine Br_r (fun h => by simp at h; omega) (fun _ => ?_)
  refine (hr.mono fun p hp => List.mem_append_right Hb hp).len 1 rfl (by decide) ?_
  refine loop_r (fun m vs w => (m = 1 ∧ vs = [int 0] ∧ Sat G w (Hb ++ R)) ∨ (m = 0 ∧ vs = [int 1] ∧ ∃ Hb', Bm b n (fun j => (f j || decide ((j : Int) = i))) Hb' ∧ Sat G w (Hb' ++ R))) 1 (.inl ⟨rfl, rfl, hs⟩) ?_
  rintro J m vs w next (⟨rfl, rfl, hs⟩ | ⟨rfl, rfl, Hb', hb', hs⟩) hnext
  · refine bin_lss (Br_t ?_)
    obtain ⟨q, rfl⟩ : ∃ q : Nat, i = q := ⟨i.toNat, by omega⟩
    refine (hr.mono fun p hp => List.mem_append_right Hb hp).ld1 (i := 0) hs (by simp) ?_
    cases hb with
    | @mk ws v Hw hw ho =>
    refine drawS_r (fun w => Sat G w (((b, row 252 [int n, v]) :: Hw) ++ R)) hs fun w hs => ?_
    (repeat (first | refine nn_r ?_ | refine add_r ?_ | refine ld_r (by assumption) (by repeat (first | exact List.Mem.head _ | apply List.Mem.tail | apply List.mem_append_right)) rfl ?_ | refine ldG_r (by assumption) (by repeat (first | exact List.Mem.head _ | apply List.Mem.tail | apply List.mem_append_right)) rfl ?_ | refine tup_r rfl ?_ | refine len_r ?_ | refine cap_r ?_ | refine draw_r (by assumption) fun w hs => ?_ | refine drawS_r (fun w => Sat _ w _) (by assumption) fun w hs => ?_ | refine held_ld (by assumption) (by repeat (first | exact List.Mem.head _ | apply List.Mem.tail | apply List.mem_append_right)) rfl ?_))
    have hmost := hw.most
    refine bin_quo (by simp) (by omega) (by simp; omega) ?_
    refine bin_rem (by simp) (by omega) ?_
    refine shl1_u64 (by simp; omega) (by simp; omega) ?_
    (repeat (first | refine nn_r ?_ | refine add_r ?_ | refine ld_r (by assumption) (by repeat (first | exact List.Mem.head _ | apply List.Mem.tail | apply List.mem_append_right)) rfl ?_ | refine ldG_r (by assumption) (by repeat (first | exact List.Mem.head _ | apply List.Mem.tail | apply List.mem_append_right)) rfl ?_ | refine tup_r rfl ?_ | refine len_r ?_ | refine cap_r ?_ | refine draw_r (by assumption) fun w hs => ?_ | refine drawS_r (fun w => Sat _ w _) (by assumption) fun w hs => ?_ | refine held_ld (by assumption) (by repeat (first | exact List.Mem.head _ | apply List.Mem.tail | apply List.mem_append_right)) rfl ?_))
    simp only [List.getElem_cons_zero]
    rw [show ((q : Int) / 64) = ((q / 64 : Nat) : Int) by omega, show ((q : Int) % 64).toNat = q % 64 by omega]
    have hlt := hw.getD_lt (q / 64)
    have hl : q / 64 < ws.length := by have := hw.le; omega
    have h2 : (2 : Nat) ^ (q % 64) < 18446744073709551616 := show 2 ^ (q % 64) < 2 ^ 64 from Nat.pow_lt_pow_right (by decide) (by omega)
    have hg : ws.getD (q / 64) 0 = ws[q / 64] := by simp [List.getD, hl]
    rw [hg] at hlt
    have hrd : Rd 1 v (ws.map fun x => u64 x) (((b, row 252 [int n, v]) :: Hw) ++ R) := ho.rd fun p hp => .tail _ (List.mem_append_left _ hp)
    rw [map_flat] at hrd
    refine hrd.idx (fun _ _ => rfl) (by decide) hl fun b1 o1 hl1 => ?_
    refine ⟨hs, _, fun w' hs' => hl1.ld (i := 0) hs' rfl ⟨rfl, rfl⟩, ?_⟩
    refine or_u64 hlt h2 ?_
    refine ho.st hs (.cons .here) (by simpa using hl) rfl fun Hw' w hs' hs => ?_
    refine bin_add (by decide) (by decide) ?_
    refine hnext 0 _ _ (by decide) (.inr ⟨rfl, rfl, _, .mk (ws := ws.set (q / 64) (ws[q / 64] ||| 2 ^ (q % 64))) (hw.upd (i := q) (by omega) (Nat.or_lt_two_pow (n := 64) hlt h2) ?_ ?_ ?_) ?_, hs.perm List.perm_middle⟩)
    · intro j hj
      have hb := hw.bit j
      rw [hj, hg] at hb
      rw [hb, Nat.testBit_or, Nat.testBit_two_pow]
      have : decide ((j : Int) = (q : Int)) = decide (q % 64 = j % 64) := by
        apply decide_eq_decide.2; omega
      rw [this]
    · intro j hj
      have : decide ((j : Int) = (q : Int)) = false := by
        have : (j : Int) ≠ (q : Int) := fun h => hj (by have h2 : j = q := (by omega); rw [h2])
        simpa using this
      simp [this]
    · intro j hj
      simp at hj
      first
        | (rcases hj with h | h
           · exact hw.off _ h
           · omega)
        | exact hw.off _ hj.1
    · rw [List.map_set]; exact hs'
  · refine bin_lss (Br_f ?_)
    exact hk _ _ hb' hs
theorem bitmap_Clear {i : Int} {v : Value} (hs : Sat G w H) (hb : Bm b n f Hb) (hsel : Sel Hb H R) (hr : Rd 1 v ([i].map int) R) (h0 : 0 ≤ i) (h1 : i < n)
    (hk : ∀ Hb' w', Bm b n (fun j => (f j && !decide ((j : Int) = i))) Hb' → Sat G w' (Hb' ++ R) → k .nilIface w') : call Tryz.prog w 113 [ptr b, v] k := by
  refine b_bitmap_Bitmap_Clear_walk ?_
  unfold b_bitmap_Bitmap_Clear
  have hs := hs.sel hsel
  refine bitmap_all hs hb .here (hr.mono fun p hp => List.mem_append_right _ hp) fun w hs => ?_
  refine un_not ?_
  refine Br_r (fun h => by simp at h; omega) (fun _ => ?_)
  refine (hr.mono fun p hp => List.mem_append_right Hb hp).len 1 rfl (by decide) ?_
  refine loop_r (fun m vs w => (m = 1 ∧ vs = [int 0] ∧ Sat G w (Hb ++ R)) ∨ (m = 0 ∧ vs = [int 1] ∧ ∃ Hb', Bm b n (fun j => (f j && !decide ((j : Int) = i))) Hb' ∧ Sat G w (Hb' ++ R))) 1 (.inl ⟨rfl, rfl, hs⟩) ?_
  rintro J m vs w next (⟨rfl, rfl, hs⟩ | ⟨rfl, rfl, Hb', hb', hs⟩) hnext
  · refine bin_lss (Br_t ?_)
    obtain ⟨q, rfl⟩ : ∃ q : Nat, i = q := ⟨i.toNat, by omega⟩
    refine (hr.mono fun p hp => List.mem_append_right Hb hp).ld1 (i := 0) hs (by simp) ?_
    cases hb with
    | @mk ws v Hw hw ho =>
    refine drawS_r (fun w => Sat G w (((b, row 252 [int n, v]) :: Hw) ++ R)) hs fun w hs => ?_
    (repeat (first | refine nn_r ?_ | refine add_r ?_ | refine ld_r (by assumption) (by repeat (first | exact List.Mem.head _ | apply List.Mem.tail | apply List.mem_append_right)) rfl ?_ | refine ldG_r (by assumption) (by repeat (first | exact List.Mem.head _ | apply List.Mem.tail | apply List.mem_append_right)) rfl ?_ | refine tup_r rfl ?_ | refine len_r ?_ | refine cap_r ?_ | refine draw_r (by assumption) fun w hs => ?_ | refine drawS_r (fun w => Sat _ w _) (by assumption) fun w hs => ?_ | refine held_ld (by assumption) (by repeat (first | exact List.Mem.head _ | apply List.Mem.tail | apply List.mem_append_right)) rfl ?_))
    have hmost := hw.most
    refine bin_quo (by simp) (by omega) (by simp; omega) ?_
    refine bin_rem (by simp) (by omega) ?_
    refine shl1_u64 (by simp; omega) (by simp; omega) ?_
    (repeat (first | refine nn_r ?_ | refine add_r ?_ | refine ld_r (by assumption) (by repeat (first | exact List.Mem.head _ | apply List.Mem.tail | apply List.mem_append_right)) rfl ?_ | refine ldG_r (by assumption) (by repeat (first | exact List.Mem.head _ | apply List.Mem.tail | apply List.mem_append_right)) rfl ?_ | refine tup_r rfl ?_ | refine len_r ?_ | refine cap_r ?_ | refine draw_r (by assumption) fun w hs => ?_ | refine drawS_r (fun w => Sat _ w _) (by assumption) fun w hs => ?_ | refine held_ld (by assumption) (by repeat (first | exact List.Mem.head _ | apply List.Mem.tail | apply List.mem_append_right)) rfl ?_))
    simp only [List.getElem_cons_zero]
    rw [show ((q : Int) / 64) = ((q / 64 : Nat) : Int) by omega, show ((q : Int) % 64).toNat = q % 64 by omega]
    have hlt := hw.getD_lt (q / 64)
    have hl : q / 64 < ws.length := by have := hw.le; omega
    have h2 : (2 : Nat) ^ (q % 64) < 18446744073709551616 := show 2 ^ (q % 64) < 2 ^ 64 from Nat.pow_lt_pow_right (by decide) (by omega)
    have hg : ws.getD (q / 64) 0 = ws[q / 64] := by simp [List.getD, hl]
    rw [hg] at hlt
    have hrd : Rd 1 v (ws.map fun x => u64 x) (((b, row 252 [int n, v]) :: Hw) ++ R) := ho.rd fun p hp => .tail _ (List.mem_append_left _ hp)
    rw [map_flat] at hrd
    refine hrd.idx (fun _ _ => rfl) (by decide) hl fun b1 o1 hl1 => ?_
    refine ⟨hs, _, fun w' hs' => hl1.ld (i := 0) hs' rfl ⟨rfl, rfl⟩, ?_⟩
    refine andNot_u64 hlt h2 ?_
    refine ho.st hs (.cons .here) (by simpa using hl) rfl fun Hw' w hs' hs => ?_
    refine bin_add (by decide) (by decide) ?_
    refine hnext 0 _ _ (by decide) (.inr ⟨rfl, rfl, _, .mk (ws := ws.set (q / 64) (ws[q / 64] &&& (18446744073709551615 - 2 ^ (q % 64)))) (hw.upd (i := q) (by omega) (Nat.lt_of_le_of_lt Nat.and_le_left hlt) ?_ ?_ ?_) ?_, hs.perm List.perm_middle⟩)
    · intro j hj
      have hb := hw.bit j
      rw [hj, hg] at hb
      rw [hb, testBit_andNot hlt h2, Nat.testBit_two_pow]
      have : decide ((j : Int) = (q : Int)) = decide (q % 64 = j % 64) := by
        apply decide_eq_decide.2; omega
      rw [this]
    · intro j hj
      have : decide ((j : Int) = (q : Int)) = false := by
        have : (j : Int) ≠ (q : Int) := fun h => hj (by have h2 : j = q := (by omega); rw [h2])
        simpa using this
      simp [this]
    · intro j hj
      simp at hj
      first
        | (rcases hj with h | h
           · exact hw.off _ h
           · omega)
        | exact hw.off _ hj.1
    · rw [List.map_set]; exact hs'
  · refine bin_lss (Br_f ?_)
    exact hk _ _ hb' hs
theorem bitmap_Grow {m : Nat} (hs : Sat G w H) (hb : Bm b n f Hb) (hsel : Sel Hb H R) (hm : n + m ≤ 4096)
    (hk : ∀ Hb' w', Bm b (n + m) f Hb' → Sat G w' (Hb' ++ R) → k .nilIface w') : call Tryz.prog w 142 [ptr b, int m] k := by
  refine b_bitmap_Bitmap_Grow_walk ?_
  unfold b_bitmap_Bitmap_Grow
  cases hb with
  | @mk ws v Hw hw ho =>
  have hs := hs.sel hsel
  refine bin_lss (Br_d (fun h => by omega) (fun _ => ?_))
  (repeat (first | refine nn_r ?_ | refine add_r ?_ | refine ld_r (by assumption) (by repeat (first | exact List.Mem.head _ | apply List.Mem.tail | apply List.mem_append_right)) rfl ?_ | refine ldG_r (by assumption) (by repeat (first | exact List.Mem.head _ | apply List.Mem.tail | apply List.mem_append_right)) rfl ?_ | refine tup_r rfl ?_ | refine len_r ?_ | refine cap_r ?_ | refine draw_r (by assumption) fun w hs => ?_ | refine drawS_r (fun w => Sat _ w _) (by assumption) fun w hs => ?_ | refine held_ld (by assumption) (by repeat (first | exact List.Mem.head _ | apply List.Mem.tail | apply List.mem_append_right)) rfl ?_))
  refine bin_sub (by omega) (by omega) ?_
  refine bin_gtr (Br_d (fun h => by omega) (fun _ => ?_))
  (repeat (first | refine nn_r ?_ | refine add_r ?_ | refine ld_r (by assumption) (by repeat (first | exact List.Mem.head _ | apply List.Mem.tail | apply List.mem_append_right)) rfl ?_ | refine ldG_r (by assumption) (by repeat (first | exact List.Mem.head _ | apply List.Mem.tail | apply List.mem_append_right)) rfl ?_ | refine tup_r rfl ?_ | refine len_r ?_ | refine cap_r ?_ | refine draw_r (by assumption) fun w hs => ?_ | refine drawS_r (fun w => Sat _ w _) (by assumption) fun w hs => ?_ | refine held_ld (by assumption) (by repeat (first | exact List.Mem.head _ | apply List.Mem.tail | apply List.mem_append_right)) rfl ?_))
  refine bin_add (by omega) (by omega) ?_
  (repeat (first | refine nn_r ?_ | refine add_r ?_ | refine ld_r (by assumption) (by repeat (first | exact List.Mem.head _ | apply List.Mem.tail | apply List.mem_append_right)) rfl ?_ | refine ldG_r (by assumption) (by repeat (first | exact List.Mem.head _ | apply List.Mem.tail | apply List.mem_append_right)) rfl ?_ | refine tup_r rfl ?_ | refine len_r ?_ | refine cap_r ?_ | refine draw_r (by assumption) fun w hs => ?_ | refine drawS_r (fun w => Sat _ w _) (by assumption) fun w hs => ?_ | refine held_ld (by assumption) (by repeat (first | exact List.Mem.head _ | apply List.Mem.tail | apply List.mem_append_right)) rfl ?_))
  refine st_r hs .head (by simp) rfl fun w hs => ?_
  refine loop_r (fun c vs w => vs = [] ∧ ∃ (l : Nat) (v : Value) (Hw : List Blk), (∀ i, (ws ++ List.replicate l 0).getD i 0 = ws.getD i 0) ∧ (ws.length + l) * 64 < n + m + 64 ∧ c = 65 - (ws.length + l) ∧ Own 222 1 v ((ws ++ List.replicate l 0).map u64) Hw ∧ Sat G w (((b, row 252 [int ((n : Int) + m), v]) :: Hw) ++ R)) (65 - ws.length) ⟨rfl, 0, v, Hw, fun _ => by simp, by have := hw.few; omega, by simp, by simpa using ho, hs⟩ ?_
  rintro J c vs w next ⟨rfl, l, v, Hw, hgd, hlt, rfl, ho, hs⟩ hnext
  refine drawS_r (fun w => Sat G w (((b, row 252 [int ((n : Int) + m), v]) :: Hw) ++ R)) hs fun w hs => ?_
  (repeat (first | refine nn_r ?_ | refine add_r ?_ | refine ld_r (by assumption) (by repeat (first | exact List.Mem.head _ | apply List.Mem.tail | apply List.mem_append_right)) rfl ?_ | refine ldG_r (by assumption) (by repeat (first | exact List.Mem.head _ | apply List.Mem.tail | apply List.mem_append_right)) rfl ?_ | refine tup_r rfl ?_ | refine len_r ?_ | refine cap_r ?_ | refine draw_r (by assumption) fun w hs => ?_ | refine drawS_r (fun w => Sat _ w _) (by assumption) fun w hs => ?_ | refine held_ld (by assumption) (by repeat (first | exact List.Mem.head _ | apply List.Mem.tail | apply List.mem_append_right)) rfl ?_))
  refine (ho.rd (H := Hw) fun p hp => hp).len (ws.length + l) (by simp) (by decide) ?_
  have hmost := hw.most
  refine bin_mul (by omega) (by omega) ?_
  (repeat (first | refine nn_r ?_ | refine add_r ?_ | refine ld_r (by assumption) (by repeat (first | exact List.Mem.head _ | apply List.Mem.tail | apply List.mem_append_right)) rfl ?_ | refine ldG_r (by assumption) (by repeat (first | exact List.Mem.head _ | apply List.Mem.tail | apply List.mem_append_right)) rfl ?_ | refine tup_r rfl ?_ | refine len_r ?_ | refine cap_r ?_ | refine draw_r (by assumption) fun w hs => ?_ | refine drawS_r (fun w => Sat _ w _) (by assumption) fun w hs => ?_ | refine held_ld (by assumption) (by repeat (first | exact List.Mem.head _ | apply List.Mem.tail | apply List.mem_append_right)) rfl ?_))
  refine bin_lss (Br_d (fun h => ?_) (fun h => ?_))
  · (repeat (first | refine nn_r ?_ | refine add_r ?_ | refine ld_r (by assumption) (by repeat (first | exact List.Mem.head _ | apply List.Mem.tail | apply List.mem_append_right)) rfl ?_ | refine ldG_r (by assumption) (by repeat (first | exact List.Mem.head _ | apply List.Mem.tail | apply List.mem_append_right)) rfl ?_ | refine tup_r rfl ?_ | refine len_r ?_ | refine cap_r ?_ | refine draw_r (by assumption) fun w hs => ?_ | refine drawS_r (fun w => Sat _ w _) (by assumption) fun w hs => ?_ | refine held_ld (by assumption) (by repeat (first | exact List.Mem.head _ | apply List.Mem.tail | apply List.mem_append_right)) rfl ?_))
    refine app1_r hs ho (.cons .here) rfl (by decide) (by simp; omega) fun v' Hw' w ho' hs => ?_
    (repeat (first | refine nn_r ?_ | refine add_r ?_ | refine ld_r (by assumption) (by repeat (first | exact List.Mem.head _ | apply List.Mem.tail | apply List.mem_append_right)) rfl ?_ | refine ldG_r (by assumption) (by repeat (first | exact List.Mem.head _ | apply List.Mem.tail | apply List.mem_append_right)) rfl ?_ | refine tup_r rfl ?_ | refine len_r ?_ | refine cap_r ?_ | refine draw_r (by assumption) fun w hs => ?_ | refine drawS_r (fun w => Sat _ w _) (by assumption) fun w hs => ?_ | refine held_ld (by assumption) (by repeat (first | exact List.Mem.head _ | apply List.Mem.tail | apply List.mem_append_right)) rfl ?_))
    refine st_r (cs := [int ((n : Int) + m), v]) hs (.app .head) (by simp) ho'.one fun w hs => ?_
    refine hnext (65 - (ws.length + (l + 1))) _ _ (by omega) ⟨rfl, l + 1, v', Hw', fun i => ?_, by omega, rfl, ?_, hs.perm List.perm_middle⟩
    · rw [← hgd i, List.replicate_succ', ← List.append_assoc]
      simp only [List.getD]
      rcases Nat.lt_or_ge i (ws ++ List.replicate l 0).length with hi | hi
      · rw [List.getElem?_append_left hi]
      · rw [List.getElem?_append_right hi, List.getElem?_eq_none hi]
        cases i - (ws ++ List.replicate l 0).length <;> simp
    · rw [List.replicate_succ', ← List.append_assoc, List.map_append]; exact ho'
  · refine hk _ _ (.mk (ws := ws ++ List.replicate l 0) ⟨fun x hx => ?_, by simp; omega, by simp; omega, hm, fun i => by rw [hgd]; exact hw.bit i, fun i hi => by have := hw.off i hi; omega⟩ ho) (by rw [Int.natCast_add]; exact hs)
    rcases List.mem_append.1 hx with h | h
    · exact hw.lt x h
    · rw [(List.mem_replicate.1 h).2]; decide
theorem bitmap_New {n : Nat} (hs : Sat G w H) (hn : n ≤ 4096)
    (hk : ∀ b Hb' w', Bm b n (fun _ => false) Hb' → Sat G w' (Hb' ++ H) → k (.tuple #[ptr b, .nilIface]) w') : call Tryz.prog w 141 [int n] k := by
  refine b_bitmap_New_walk ?_
  unfold b_bitmap_New
  refine bld_r (zero := [int 0, .slice none 0 0]) (cs := [int 0, .slice none 0 0]) rfl ?_
  refine boxA_r hs fun b w hs => ?_
  refine bitmap_Grow (n := 0) (m := n) (f := fun _ => false) hs (.mk (ws := []) ⟨by simp, by simp, by simp, by simp, fun i => by simp, fun i h => by cases h⟩ .nil) (.here (X := [_])) (by omega) fun Hb' w hb hs => ?_
  refine eq_nn (Br_f ?_)
  rw [Nat.zero_add] at hb
  exact hk _ _ _ hb hs
theorem bitmap_Clone (hs : Sat G w H) (hb : Bm b n f Hb) (hsel : Sel Hb H R)
    (hk : ∀ b' Hb' w', Bm b' n f Hb' → Sat G w' (Hb' ++ (Hb ++ R)) → k (ptr b') w') : call Tryz.prog w 204 [ptr b] k := by
  refine b_bitmap_Bitmap_Clone_walk ?_
  unfold b_bitmap_Bitmap_Clone
  cases hb with
  | @mk ws v Hw hw ho =>
  have hs := hs.sel hsel
  refine drawS_r (fun w => Sat G w (((b, row 252 [int n, v]) :: Hw) ++ R)) hs fun w hs => ?_
  (repeat (first | refine nn_r ?_ | refine add_r ?_ | refine ld_r (by assumption) (by repeat (first | exact List.Mem.head _ | apply List.Mem.tail | apply List.mem_append_right)) rfl ?_ | refine ldG_r (by assumption) (by repeat (first | exact List.Mem.head _ | apply List.Mem.tail | apply List.mem_append_right)) rfl ?_ | refine tup_r rfl ?_ | refine len_r ?_ | refine cap_r ?_ | refine draw_r (by assumption) fun w hs => ?_ | refine drawS_r (fun w => Sat _ w _) (by assumption) fun w hs => ?_ | refine held_ld (by assumption) (by repeat (first | exact List.Mem.head _ | apply List.Mem.tail | apply List.mem_append_right)) rfl ?_))
  have hmost := hw.most
  have hfew := hw.few
  refine slices_Clone_uint64_uint64 hs (ho.rd fun p hp => .tail _ (List.mem_append_left _ hp)) ?_ (by simp; omega) fun v' Hv' w ho' hs => ⟨hs.drop, ?_⟩
  · intro y hy
    obtain ⟨x, _, rfl⟩ := List.mem_map.1 hy
    rfl
  refine bld_r (zero := [int 0, .slice none 0 0]) (cs := [int n, v']) (by obtain ⟨a, c, d, rfl⟩ := ho'.form; rfl) ?_
  refine boxA_r hs fun b' w hs => ⟨hs.tail.drop, ?_⟩
  exact hk _ _ _ (.mk hw ho') hs
theorem bitsIn_off {f : Nat → Bool} (h : ∀ i, f i = true → i < n) {m : Nat} (hm : n ≤ m) : bitsIn m f = bitsIn n f := by
  obtain ⟨d, rfl⟩ : ∃ d, m = n + d := ⟨m - n, by omega⟩
  rw [bitsIn_add]
  have : bitsIn d (fun i => f (n + i)) = 0 := by
    unfold bitsIn
    rw [List.countP_eq_zero]
    intro i _ hi
    have := h _ hi
    omega
  omega
theorem bitmap_Count (hs : Sat G w H) (hb : Bm b n f Hb) (hsel : Sel Hb H R) (hk : k (int (bitsIn n f)) w) : call Tryz.prog w 177 [ptr b] k := by
  refine b_bitmap_Bitmap_Count_walk ?_
  unfold b_bitmap_Bitmap_Count
  cases hb with
  | @mk ws v Hw hw ho =>
  have hs := hs.sel hsel
  have hmost := hw.most
  have hfew := hw.few
  have hrd : Rd 1 v (ws.map fun x => u64 x) (((b, row 252 [int n, v]) :: Hw) ++ R) := ho.rd fun p hp => .tail _ (List.mem_append_left _ hp)
  (repeat (first | refine nn_r ?_ | refine add_r ?_ | refine ld_r (by assumption) (by repeat (first | exact List.Mem.head _ | apply List.Mem.tail | apply List.mem_append_right)) rfl ?_ | refine ldG_r (by assumption) (by repeat (first | exact List.Mem.head _ | apply List.Mem.tail | apply List.mem_append_right)) rfl ?_ | refine tup_r rfl ?_ | refine len_r ?_ | refine cap_r ?_ | refine draw_r (by assumption) fun w hs => ?_ | refine drawS_r (fun w => Sat _ w _) (by assumption) fun w hs => ?_ | refine held_ld (by assumption) (by repeat (first | exact List.Mem.head _ | apply List.Mem.tail | apply List.mem_append_right)) rfl ?_))
  refine hrd.len ws.length (by simp) (by decide) ?_
  refine loop_r (fun c vs w' => ∃ i : Nat, i ≤ ws.length ∧ vs = [int (bitsIn (i * 64) f), int i] ∧ c = ws.length - i ∧ w' = w) ws.length ⟨0, by omega, rfl, rfl, rfl⟩ ?_
  rintro J c vs w' next ⟨i, hi, rfl, rfl, rfl⟩ hnext
  refine bin_lss (Br_d (fun h => ?_) (fun h => ?_))
  · have hi' : i < ws.length := by simpa using h
    refine hrd.ld1 hs hi' ?_
    refine math_bits_OnesCount64 (hw.lt _ (List.getElem_mem hi')) ?_
    have hle := bitsIn_le (i * 64) f
    have hb : bitCount ws[i] ≤ 64 := Nat.le_trans List.countP_le_length (by simp)
    refine bin_add (by omega) (by omega) ?_
    refine bin_add (by omega) (by omega) ?_
    refine hnext (ws.length - (i + 1)) _ _ (by omega) ⟨i + 1, by omega, ?_, rfl, rfl⟩
    have : bitsIn ((i + 1) * 64) f = bitsIn (i * 64) f + bitCount ws[i] := by
      rw [show (i + 1) * 64 = i * 64 + 64 by omega, bitsIn_add]
      congr 1
      unfold bitsIn bitCount
      apply List.countP_congr
      intro j hj
      have hj := List.mem_range.1 hj
      rw [hw.bit, show (i * 64 + j) / 64 = i by omega, show (i * 64 + j) % 64 = j by omega]
      simp [List.getD, hi']
    rw [this]; simp
  · have hi' : i = ws.length := by have : ¬ i < ws.length := by simpa using h
                                   omega
    subst hi'
    rw [bitsIn_off hw.off hw.le] at *
    exact hk
theorem bitmap_find {inv : Bool} {mask : Nat} {s : Int} (hs : Sat G w H) (hT : Tab G) (hb : Bm b n f Hb) (hsel : Sel Hb H R) (hmask : mask = if inv then 18446744073709551615 else 0) (hlo : s ≤ 4611686018427387904)
    (hk : ∀ r, FirstAt n (fun j => f j != inv) s.toNat r → k (.tuple #[int ((r.getD 0 : Nat) : Int), .bool r.isSome]) w) : call Tryz.prog w 148 [ptr b, int s, u64 mask] k := by
  refine b_bitmap_Bitmap_find_walk ?_
  unfold b_bitmap_Bitmap_find
  cases hb with
  | @mk ws v Hw hw ho =>
  have hs := hs.sel hsel
  have hmost := hw.most
  have hrd : Rd 1 v (ws.map fun x => u64 x) (((b, row 252 [int n, v]) :: Hw) ++ R) := ho.rd fun p hp => .tail _ (List.mem_append_left _ hp)
  refine ext_max ?_
  rw [show (if s < 0 then (0 : Int) else s) = ((s.toNat : Nat) : Int) by split <;> omega]
  have hsn : s.toNat ≤ 4611686018427387904 := by omega
  generalize s.toNat = s at *
  refine loop_r (fun c vs w' => ∃ i : Nat, s ≤ i ∧ (i ≤ n + 64 ∨ i = s) ∧ vs = [int i] ∧ c = n + 65 - i ∧ w' = w ∧ ∀ j, s ≤ j → j < i → j < n → (f j != inv) = false) (n + 65 - s) ⟨s, by omega, .inr rfl, rfl, rfl, rfl, fun j _ _ _ => by omega⟩ ?_
  rintro J c vs w' next ⟨i, hsi, _, rfl, rfl, rfl, hno⟩ hnext
  (repeat (first | refine nn_r ?_ | refine add_r ?_ | refine ld_r (by assumption) (by repeat (first | exact List.Mem.head _ | apply List.Mem.tail | apply List.mem_append_right)) rfl ?_ | refine ldG_r (by assumption) (by repeat (first | exact List.Mem.head _ | apply List.Mem.tail | apply List.mem_append_right)) rfl ?_ | refine tup_r rfl ?_ | refine len_r ?_ | refine cap_r ?_ | refine draw_r (by assumption) fun w hs => ?_ | refine drawS_r (fun w => Sat _ w _) (by assumption) fun w hs => ?_ | refine held_ld (by assumption) (by repeat (first | exact List.Mem.head _ | apply List.Mem.tail | apply List.mem_append_right)) rfl ?_))
  refine bin_lss (Br_d (fun h => ?_) (fun h => ?_))
  · have hin : i < n := by simpa using h
    (repeat (first | refine nn_r ?_ | refine add_r ?_ | refine ld_r (by assumption) (by repeat (first | exact List.Mem.head _ | apply List.Mem.tail | apply List.mem_append_right)) rfl ?_ | refine ldG_r (by assumption) (by repeat (first | exact List.Mem.head _ | apply List.Mem.tail | apply List.mem_append_right)) rfl ?_ | refine tup_r rfl ?_ | refine len_r ?_ | refine cap_r ?_ | refine draw_r (by assumption) fun w hs => ?_ | refine drawS_r (fun w => Sat _ w _) (by assumption) fun w hs => ?_ | refine held_ld (by assumption) (by repeat (first | exact List.Mem.head _ | apply List.Mem.tail | apply List.mem_append_right)) rfl ?_))
    refine bin_quo (by omega) (by omega) (by omega) ?_
    rw [show ((i : Int) / 64) = ((i / 64 : Nat) : Int) by omega]
    have hl : i / 64 < ws.length := by have := hw.le; omega
    have hlt := hw.lt _ (List.getElem_mem hl)
    refine hrd.ld1 hs hl ?_
    have hm : mask < 18446744073709551616 := by rw [hmask]; split <;> decide
    refine xor_u64 hlt hm ?_
    refine bin_rem (by omega) (by omega) ?_
    have hx : ws[i / 64] ^^^ mask < 2 ^ 64 := Nat.xor_lt_two_pow hlt hm
    refine shr_u64 hx (by omega) ?_
    rw [show ((i : Int) % 64).toNat = i % 64 by omega]
    have hbit : ∀ t, i % 64 + t < 64 → ((ws[i / 64] ^^^ mask) >>> (i % 64)).testBit t = (f (i + t) != inv) := by
      intro t ht
      have hmb : mask.testBit (i % 64 + t) = inv := by
        rw [hmask]
        cases inv with
        | false => simp
        | true =>
          rw [if_pos rfl, show 18446744073709551615 = 2 ^ 64 - 1 by decide, Nat.testBit_two_pow_sub_one]
          simpa using ht
      rw [Nat.testBit_shiftRight, Nat.testBit_xor, hmb, hw.bit (i + t), show (i + t) / 64 = i / 64 by omega, show (i + t) % 64 = i % 64 + t by omega]
      simp [List.getD, hl]
    have hylt : (ws[i / 64] ^^^ mask) >>> (i % 64) < 18446744073709551616 := Nat.lt_of_le_of_lt (Nat.shiftRight_le _ _) hx
    have hhi : ∀ t, 64 ≤ i % 64 + t → ((ws[i / 64] ^^^ mask) >>> (i % 64)).testBit t = false := by
      intro t ht
      rw [Nat.testBit_shiftRight]
      exact Nat.testBit_lt_two_pow (Nat.lt_of_lt_of_le hx (Nat.pow_le_pow_right (by decide) ht))
    generalize (ws[i / 64] ^^^ mask) >>> (i % 64) = y at *
    refine bin_eql (Br_eq (fun h0 => ?_) (fun h0 => ?_))
    · have h0 : y = 0 := by exact_mod_cast h0
      subst h0
      refine bin_rem (by omega) (by omega) ?_
      refine bin_sub (by omega) (by omega) ?_
      refine bin_add (by omega) (by omega) ?_
      refine hnext (n + 65 - (i + (64 - i % 64))) _ _ (by omega) ⟨i + (64 - i % 64), by omega, .inl (by omega), ?_, rfl, rfl, fun j h1 h2 h3 => ?_⟩
      · have : ((i : Int) + (64 - (i : Int) % 64)) = ((i + (64 - i % 64) : Nat) : Int) := by omega
        rw [← this]
      · rcases Nat.lt_or_ge j i with hj | hj
        · exact hno j h1 hj h3
        · have := hbit (j - i) (by omega)
          rw [show i + (j - i) = j by omega] at this
          rw [← this]; simp
    · have h0 : y ≠ 0 := fun e => h0 (by rw [e]; rfl)
      refine math_bits_TrailingZeros64 hs hT h0 hylt fun t ht h1 h2 => ?_
      have htl : i % 64 + t < 64 := by
        apply Nat.lt_of_not_le
        intro h
        rw [hhi t h] at h1; cases h1
      have hlow : ∀ j, s ≤ j → j < i + t → j < n → (f j != inv) = false := by
        intro j h3 h4 h5
        rcases Nat.lt_or_ge j i with hj | hj
        · exact hno j h3 hj h5
        · have := hbit (j - i) (by omega)
          rw [show i + (j - i) = j by omega] at this
          rw [← this]; exact h2 _ (by omega)
      refine bin_add (by omega) (by omega) ?_
      (repeat (first | refine nn_r ?_ | refine add_r ?_ | refine ld_r (by assumption) (by repeat (first | exact List.Mem.head _ | apply List.Mem.tail | apply List.mem_append_right)) rfl ?_ | refine ldG_r (by assumption) (by repeat (first | exact List.Mem.head _ | apply List.Mem.tail | apply List.mem_append_right)) rfl ?_ | refine tup_r rfl ?_ | refine len_r ?_ | refine cap_r ?_ | refine draw_r (by assumption) fun w hs => ?_ | refine drawS_r (fun w => Sat _ w _) (by assumption) fun w hs => ?_ | refine held_ld (by assumption) (by repeat (first | exact List.Mem.head _ | apply List.Mem.tail | apply List.mem_append_right)) rfl ?_))
      refine bin_lss (Br_d (fun h => ?_) (fun h => ?_))
      · have := hk (some (i + t)) ⟨by omega, by omega, (hbit t htl).symm.trans h1, fun j h3 h4 => hlow j h3 h4 (by omega)⟩
        simpa using this
      · exact hk none fun j h3 h4 => hlow j h3 (by omega) h4
  · exact hk none fun j h3 h4 => hno j h3 (by omega) h4
theorem bitmap_Free {s : Int} (hs : Sat G w H) (hT : Tab G) (hb : Bm b n f Hb) (hsel : Sel Hb H R) (hlo : s ≤ 4611686018427387904)
    (hk : ∀ r, FirstAt n (fun j => !f j) s.toNat r → k (.tuple #[int ((r.getD 0 : Nat) : Int), .bool r.isSome]) w) : call Tryz.prog w 195 [ptr b, int s] k := by
  refine b_bitmap_Bitmap_Free_walk ?_
  unfold b_bitmap_Bitmap_Free
  refine bitmap_find (inv := true) (mask := 18446744073709551615) hs hT hb hsel rfl hlo fun r hr => ?_
  (repeat (first | refine nn_r ?_ | refine add_r ?_ | refine ld_r (by assumption) (by repeat (first | exact List.Mem.head _ | apply List.Mem.tail | apply List.mem_append_right)) rfl ?_ | refine ldG_r (by assumption) (by repeat (first | exact List.Mem.head _ | apply List.Mem.tail | apply List.mem_append_right)) rfl ?_ | refine tup_r rfl ?_ | refine len_r ?_ | refine cap_r ?_ | refine draw_r (by assumption) fun w hs => ?_ | refine drawS_r (fun w => Sat _ w _) (by assumption) fun w hs => ?_ | refine held_ld (by assumption) (by repeat (first | exact List.Mem.head _ | apply List.Mem.tail | apply List.mem_append_right)) rfl ?_))
  exact hk r (by simpa using hr)
theorem bitmap_Next {s : Int} (hs : Sat G w H) (hT : Tab G) (hb : Bm b n f Hb) (hsel : Sel Hb H R) (hlo : s ≤ 4611686018427387904)
    (hk : ∀ r, FirstAt n (fun j => f j) s.toNat r → k (.tuple #[int ((r.getD 0 : Nat) : Int), .bool r.isSome]) w) : call Tryz.prog w 98 [ptr b, int s] k := by
  refine b_bitmap_Bitmap_Next_walk ?_
  unfold b_bitmap_Bitmap_Next
  refine bitmap_find (inv := false) (mask := 0) hs hT hb hsel rfl hlo fun r hr => ?_
  (repeat (first | refine nn_r ?_ | refine add_r ?_ | refine ld_r (by assumption) (by repeat (first | exact List.Mem.head _ | apply List.Mem.tail | apply List.mem_append_right)) rfl ?_ | refine ldG_r (by assumption) (by repeat (first | exact List.Mem.head _ | apply List.Mem.tail | apply List.mem_append_right)) rfl ?_ | refine tup_r rfl ?_ | refine len_r ?_ | refine cap_r ?_ | refine draw_r (by assumption) fun w hs => ?_ | refine drawS_r (fun w => Sat _ w _) (by assumption) fun w hs => ?_ | refine held_ld (by assumption) (by repeat (first | exact List.Mem.head _ | apply List.Mem.tail | apply List.mem_append_right)) rfl ?_))
  exact hk r (by simpa using hr)
end
end Go.Proofs.YtemenmmekddjaaaGreatDoor
end
