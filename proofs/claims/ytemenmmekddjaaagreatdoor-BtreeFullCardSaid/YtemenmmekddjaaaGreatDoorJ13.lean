/- The bodies of functions, written out by program from the loaded translation; each is held against it by the kernel. No condition. -/
import Derived.Test.YtemenmmekddjaaaGreatDoorProg
import Derived.KernelRfl
import Derived.Test.YtemenmmekddjaaaGreatDoorJ03
set_option linter.all false
set_option linter.unusedVariables false
set_option linter.unusedSimpArgs false
set_option linter.unnecessarySimpa false
set_option linter.unusedSectionVars false
set_option linter.constructorNameAsVariable false
namespace Go.Proofs.YtemenmmekddjaaaGreatDoor
open Go Go.Wx Go.W
set_option maxRecDepth 100000
set_option linter.unusedVariables false
/-! ### (*portage/bitmap.Bitmap).Clear -/
def b_bitmap_Bitmap_Clear (t0 t1 : Value) (k : K) (w : World) : Prop :=
  call Tryz.prog w 172 [t0, t1] fun t9 w =>
  un w .not t9 fun t10 w =>
  Br t10 (
    k (.iface 149 (.int .i64 20)) w
  ) (
    len w t1 fun t13 w =>
    loop [(.int .i64 0)] w fun J1 s1 next1 w =>
    bin w .lss (at' s1 0) t13 fun t15 w =>
    Br t15 (
      idx w 1 t1 (at' s1 0) fun t16 w =>
      ld w t16 fun t17 w =>
      drawS w fun S w =>
      nn w t0 fun t19 w =>
      add w 1 t19 fun t20 w =>
      bin w .quo t17 (.int .i64 64) fun t23 w =>
      bin w .rem t17 (.int .i64 64) fun t27 w =>
      bin w .shl (.int .u64 1) t27 fun t28 w =>
      held S w (fun w k => ld w t20 k) fun t21 w =>
      idx w 1 t21 t23 fun t24 w =>
      held S w (fun w k => ld w t24 k) fun t25 w =>
      bin w .andNot t25 t28 fun t29 w =>
      idx w 1 t21 t23 fun t30 w =>
      st w 1 t30 t29 fun _ w =>
      bin w .add (at' s1 0) (.int .i64 1) fun t31 w =>
      next1 [t31] w
    ) (
      k .nilIface w
    )
  )
theorem b_bitmap_Bitmap_Clear_eq (t0 t1 : Value) (k : K) (w : World) : b_bitmap_Bitmap_Clear t0 t1 k w = bodyW Tryz.prog [(4, [14])] Tryz.f113 [t0, t1] k w := by kernel_rfl
/-- (*portage/bitmap.Bitmap).Clear -/
theorem b_bitmap_Bitmap_Clear_walk {t0 t1 : Value} {k : K} {w : World} (h : b_bitmap_Bitmap_Clear t0 t1 k w) : call Tryz.prog w 113 [t0, t1] k :=
  calls_of_body Tryz.func113 (b_bitmap_Bitmap_Clear_eq t0 t1 k w ▸ h) (Nat.le_of_ble_eq_true rfl)
/-! ### (*portage/bitmap.Bitmap).Clone -/
def b_bitmap_Bitmap_Clone (t0 : Value) (k : K) (w : World) : Prop :=
  drawS w fun S w =>
  nn w t0 fun t4 w =>
  add w 0 t4 fun t5 w =>
  nn w t0 fun t8 w =>
  add w 1 t8 fun t9 w =>
  held S w (fun w k => ld w t5 k) fun t6 w =>
  held S w (fun w k => ld w t9 k) fun t10 w =>
  call Tryz.prog w 232 [t10] fun t11 w =>
  S w ∧
  bld w #[(0, 1), (1, 1)] #[.int .i64 0, .slice none 0 0] [(0, t6), (1, t11)] fun t12 w =>
  box w 252 t12 fun t13 w =>
  S w ∧
  k t13 w
theorem b_bitmap_Bitmap_Clone_eq (t0 : Value) (k : K) (w : World) : b_bitmap_Bitmap_Clone t0 k w = bodyW Tryz.prog [] Tryz.f204 [t0] k w := by kernel_rfl
/-- (*portage/bitmap.Bitmap).Clone -/
theorem b_bitmap_Bitmap_Clone_walk {t0 : Value} {k : K} {w : World} (h : b_bitmap_Bitmap_Clone t0 k w) : call Tryz.prog w 204 [t0] k :=
  calls_of_body Tryz.func204 (b_bitmap_Bitmap_Clone_eq t0 k w ▸ h) (Nat.le_of_ble_eq_true rfl)
/-! ### (*portage/bitmap.Bitmap).Count -/
def b_bitmap_Bitmap_Count (t0 : Value) (k : K) (w : World) : Prop :=
  nn w t0 fun t7 w =>
  add w 1 t7 fun t8 w =>
  ld w t8 fun t9 w =>
  len w t9 fun t10 w =>
  loop [(.int .i64 0), (.int .i64 0)] w fun J1 s1 next1 w =>
  bin w .lss (at' s1 1) t10 fun t12 w =>
  Br t12 (
    idx w 1 t9 (at' s1 1) fun t13 w =>
    ld w t13 fun t14 w =>
    call Tryz.prog w 218 [t14] fun t17 w =>
    bin w .add (at' s1 0) t17 fun t18 w =>
    bin w .add (at' s1 1) (.int .i64 1) fun t19 w =>
    next1 [t18, t19] w
  ) (
    k (at' s1 0) w
  )
theorem b_bitmap_Bitmap_Count_eq (t0 : Value) (k : K) (w : World) : b_bitmap_Bitmap_Count t0 k w = bodyW Tryz.prog [(3, [3, 11])] Tryz.f177 [t0] k w := by kernel_rfl
/-- (*portage/bitmap.Bitmap).Count -/
theorem b_bitmap_Bitmap_Count_walk {t0 : Value} {k : K} {w : World} (h : b_bitmap_Bitmap_Count t0 k w) : call Tryz.prog w 177 [t0] k :=
  calls_of_body Tryz.func177 (b_bitmap_Bitmap_Count_eq t0 k w ▸ h) (Nat.le_of_ble_eq_true rfl)
/-! ### (*portage/bitmap.Bitmap).Free -/
def b_bitmap_Bitmap_Free (t0 t1 : Value) (k : K) (w : World) : Prop :=
  call Tryz.prog w 148 [t0, t1, (.int .u64 18446744073709551615)] fun t8 w =>
  tup w 0 t8 fun t9 w =>
  tup w 1 t8 fun t10 w =>
  k (.tuple #[t9, t10]) w
theorem b_bitmap_Bitmap_Free_eq (t0 t1 : Value) (k : K) (w : World) : b_bitmap_Bitmap_Free t0 t1 k w = bodyW Tryz.prog [] Tryz.f195 [t0, t1] k w := by kernel_rfl
/-- (*portage/bitmap.Bitmap).Free -/
theorem b_bitmap_Bitmap_Free_walk {t0 t1 : Value} {k : K} {w : World} (h : b_bitmap_Bitmap_Free t0 t1 k w) : call Tryz.prog w 195 [t0, t1] k :=
  calls_of_body Tryz.func195 (b_bitmap_Bitmap_Free_eq t0 t1 k w ▸ h) (Nat.le_of_ble_eq_true rfl)
/-! ### (*portage/bitmap.Bitmap).Grow -/
def b_bitmap_Bitmap_Grow (t0 t1 : Value) (k : K) (w : World) : Prop :=
  bin w .lss t1 (.int .i64 0) fun t6 w =>
  Br t6 (
    k (.iface 149 (.int .i64 20)) w
  ) (
    nn w t0 fun t10 w =>
    add w 0 t10 fun t11 w =>
    ld w t11 fun t12 w =>
    bin w .sub (.int .i64 4096) t12 fun t13 w =>
    bin w .gtr t1 t13 fun t14 w =>
    Br t14 (
      k (.iface 149 (.int .i64 20)) w
    ) (
      nn w t0 fun t18 w =>
      add w 0 t18 fun t19 w =>
      ld w t19 fun t20 w =>
      bin w .add t20 t1 fun t22 w =>
      nn w t0 fun t23 w =>
      add w 0 t23 fun t24 w =>
      st w 1 t24 t22 fun _ w =>
      loop [] w fun J1 s1 next1 w =>
      drawS w fun S w =>
      nn w t0 fun t26 w =>
      add w 1 t26 fun t27 w =>
      nn w t0 fun t32 w =>
      add w 0 t32 fun t33 w =>
      held S w (fun w k => ld w t27 k) fun t28 w =>
      len w t28 fun t29 w =>
      bin w .mul t29 (.int .i64 64) fun t30 w =>
      held S w (fun w k => ld w t33 k) fun t34 w =>
      bin w .lss t30 t34 fun t35 w =>
      Br t35 (
        nn w t0 fun t38 w =>
        add w 1 t38 fun t39 w =>
        ld w t39 fun t40 w =>
        bldS w 222 1 1 [.int .u64 0] [(0, (.int .u64 0))] fun t41 w =>
        app w 222 1 8 #[.int .u64 0] t40 t41 fun t42 w =>
        nn w t0 fun t43 w =>
        add w 1 t43 fun t44 w =>
        st w 1 t44 t42 fun _ w =>
        next1 [] w
      ) (
        k .nilIface w
      )
    )
  )
theorem b_bitmap_Bitmap_Grow_eq (t0 t1 : Value) (k : K) (w : World) : b_bitmap_Bitmap_Grow t0 t1 k w = bodyW Tryz.prog [(4, [])] Tryz.f142 [t0, t1] k w := by kernel_rfl
/-- (*portage/bitmap.Bitmap).Grow -/
theorem b_bitmap_Bitmap_Grow_walk {t0 t1 : Value} {k : K} {w : World} (h : b_bitmap_Bitmap_Grow t0 t1 k w) : call Tryz.prog w 142 [t0, t1] k :=
  calls_of_body Tryz.func142 (b_bitmap_Bitmap_Grow_eq t0 t1 k w ▸ h) (Nat.le_of_ble_eq_true rfl)
/-! ### (*portage/bitmap.Bitmap).Has -/
def b_bitmap_Bitmap_Has (t0 t1 : Value) (k : K) (w : World) : Prop :=
  call Tryz.prog w 171 [t0, t1] fun t7 w =>
  Br t7 (
    nn w t0 fun t10 w =>
    add w 1 t10 fun t11 w =>
    ld w t11 fun t12 w =>
    bin w .quo t1 (.int .i64 64) fun t14 w =>
    idx w 1 t12 t14 fun t15 w =>
    ld w t15 fun t16 w =>
    bin w .rem t1 (.int .i64 64) fun t18 w =>
    bin w .shr t16 t18 fun t19 w =>
    bin w .and t19 (.int .u64 1) fun t20 w =>
    bin w .eql t20 (.int .u64 1) fun t21 w =>
    k t21 w
  ) (
    k (.bool false) w
  )
theorem b_bitmap_Bitmap_Has_eq (t0 t1 : Value) (k : K) (w : World) : b_bitmap_Bitmap_Has t0 t1 k w = bodyW Tryz.prog [] Tryz.f112 [t0, t1] k w := by kernel_rfl
/-- (*portage/bitmap.Bitmap).Has -/
theorem b_bitmap_Bitmap_Has_walk {t0 t1 : Value} {k : K} {w : World} (h : b_bitmap_Bitmap_Has t0 t1 k w) : call Tryz.prog w 112 [t0, t1] k :=
  calls_of_body Tryz.func112 (b_bitmap_Bitmap_Has_eq t0 t1 k w ▸ h) (Nat.le_of_ble_eq_true rfl)
/-! ### (*portage/bitmap.Bitmap).Len -/
def b_bitmap_Bitmap_Len (t0 : Value) (k : K) (w : World) : Prop :=
  nn w t0 fun t4 w =>
  add w 0 t4 fun t5 w =>
  ld w t5 fun t6 w =>
  k t6 w
theorem b_bitmap_Bitmap_Len_eq (t0 : Value) (k : K) (w : World) : b_bitmap_Bitmap_Len t0 k w = bodyW Tryz.prog [] Tryz.f143 [t0] k w := by kernel_rfl
/-- (*portage/bitmap.Bitmap).Len -/
theorem b_bitmap_Bitmap_Len_walk {t0 : Value} {k : K} {w : World} (h : b_bitmap_Bitmap_Len t0 k w) : call Tryz.prog w 143 [t0] k :=
  calls_of_body Tryz.func143 (b_bitmap_Bitmap_Len_eq t0 k w ▸ h) (Nat.le_of_ble_eq_true rfl)
/-! ### (*portage/bitmap.Bitmap).Next -/
def b_bitmap_Bitmap_Next (t0 t1 : Value) (k : K) (w : World) : Prop :=
  call Tryz.prog w 148 [t0, t1, (.int .u64 0)] fun t8 w =>
  tup w 0 t8 fun t9 w =>
  tup w 1 t8 fun t10 w =>
  k (.tuple #[t9, t10]) w
theorem b_bitmap_Bitmap_Next_eq (t0 t1 : Value) (k : K) (w : World) : b_bitmap_Bitmap_Next t0 t1 k w = bodyW Tryz.prog [] Tryz.f98 [t0, t1] k w := by kernel_rfl
/-- (*portage/bitmap.Bitmap).Next -/
theorem b_bitmap_Bitmap_Next_walk {t0 t1 : Value} {k : K} {w : World} (h : b_bitmap_Bitmap_Next t0 t1 k w) : call Tryz.prog w 98 [t0, t1] k :=
  calls_of_body Tryz.func98 (b_bitmap_Bitmap_Next_eq t0 t1 k w ▸ h) (Nat.le_of_ble_eq_true rfl)
/-! ### (*portage/bitmap.Bitmap).Set -/
def b_bitmap_Bitmap_Set (t0 t1 : Value) (k : K) (w : World) : Prop :=
  call Tryz.prog w 172 [t0, t1] fun t9 w =>
  un w .not t9 fun t10 w =>
  Br t10 (
    k (.iface 149 (.int .i64 20)) w
  ) (
    len w t1 fun t13 w =>
    loop [(.int .i64 0)] w fun J1 s1 next1 w =>
    bin w .lss (at' s1 0) t13 fun t15 w =>
    Br t15 (
      idx w 1 t1 (at' s1 0) fun t16 w =>
      ld w t16 fun t17 w =>
      drawS w fun S w =>
      nn w t0 fun t19 w =>
      add w 1 t19 fun t20 w =>
      bin w .quo t17 (.int .i64 64) fun t23 w =>
      bin w .rem t17 (.int .i64 64) fun t27 w =>
      bin w .shl (.int .u64 1) t27 fun t28 w =>
      held S w (fun w k => ld w t20 k) fun t21 w =>
      idx w 1 t21 t23 fun t24 w =>
      held S w (fun w k => ld w t24 k) fun t25 w =>
      bin w .or t25 t28 fun t29 w =>
      idx w 1 t21 t23 fun t30 w =>
      st w 1 t30 t29 fun _ w =>
      bin w .add (at' s1 0) (.int .i64 1) fun t31 w =>
      next1 [t31] w
    ) (
      k .nilIface w
    )
  )
theorem b_bitmap_Bitmap_Set_eq (t0 t1 : Value) (k : K) (w : World) : b_bitmap_Bitmap_Set t0 t1 k w = bodyW Tryz.prog [(4, [14])] Tryz.f196 [t0, t1] k w := by kernel_rfl
/-- (*portage/bitmap.Bitmap).Set -/
theorem b_bitmap_Bitmap_Set_walk {t0 t1 : Value} {k : K} {w : World} (h : b_bitmap_Bitmap_Set t0 t1 k w) : call Tryz.prog w 196 [t0, t1] k :=
  calls_of_body Tryz.func196 (b_bitmap_Bitmap_Set_eq t0 t1 k w ▸ h) (Nat.le_of_ble_eq_true rfl)
/-! ### (*portage/bitmap.Bitmap).all -/
def b_bitmap_Bitmap_all (t0 t1 : Value) (k : K) (w : World) : Prop :=
  box w 171 t0 fun t2 w =>
  call Tryz.prog w 193 [t1, (.func (.func 205) #[] #[t2])] fun t7 w =>
  un w .not t7 fun t8 w =>
  k t8 w
theorem b_bitmap_Bitmap_all_eq (t0 t1 : Value) (k : K) (w : World) : b_bitmap_Bitmap_all t0 t1 k w = bodyW Tryz.prog [] Tryz.f172 [t0, t1] k w := by kernel_rfl
/-- (*portage/bitmap.Bitmap).all -/
theorem b_bitmap_Bitmap_all_walk {t0 t1 : Value} {k : K} {w : World} (h : b_bitmap_Bitmap_all t0 t1 k w) : call Tryz.prog w 172 [t0, t1] k :=
  calls_of_body Tryz.func172 (b_bitmap_Bitmap_all_eq t0 t1 k w ▸ h) (Nat.le_of_ble_eq_true rfl)
/-! ### (*portage/bitmap.Bitmap).all$1 -/
def b_bitmap_Bitmap_all_c1 (t0 t1 : Value) (k : K) (w : World) : Prop :=
  ld w t1 fun t4 w =>
  call Tryz.prog w 171 [t4, t0] fun t6 w =>
  un w .not t6 fun t7 w =>
  k t7 w
theorem b_bitmap_Bitmap_all_c1_eq (t0 t1 : Value) (k : K) (w : World) : b_bitmap_Bitmap_all_c1 t0 t1 k w = bodyW Tryz.prog [] Tryz.f205 [t0, t1] k w := by kernel_rfl
/-- (*portage/bitmap.Bitmap).all$1 -/
theorem b_bitmap_Bitmap_all_c1_walk {t0 t1 : Value} {k : K} {w : World} (h : b_bitmap_Bitmap_all_c1 t0 t1 k w) : call Tryz.prog w 205 [t0, t1] k :=
  calls_of_body Tryz.func205 (b_bitmap_Bitmap_all_c1_eq t0 t1 k w ▸ h) (Nat.le_of_ble_eq_true rfl)
/-! ### (*portage/bitmap.Bitmap).find -/
def b_bitmap_Bitmap_find (t0 t1 t2 : Value) (k : K) (w : World) : Prop :=
  ext w true t1 (.int .i64 0) fun t11 w =>
  loop [t11] w fun J1 s1 next1 w =>
  nn w t0 fun t15 w =>
  add w 0 t15 fun t16 w =>
  ld w t16 fun t17 w =>
  bin w .lss (at' s1 0) t17 fun t18 w =>
  Br t18 (
    nn w t0 fun t20 w =>
    add w 1 t20 fun t21 w =>
    ld w t21 fun t22 w =>
    bin w .quo (at' s1 0) (.int .i64 64) fun t24 w =>
    idx w 1 t22 t24 fun t25 w =>
    ld w t25 fun t26 w =>
    bin w .xor t26 t2 fun t28 w =>
    bin w .rem (at' s1 0) (.int .i64 64) fun t30 w =>
    bin w .shr t28 t30 fun t31 w =>
    bin w .eql t31 (.int .u64 0) fun t33 w =>
    Br t33 (
      bin w .rem (at' s1 0) (.int .i64 64) fun t36 w =>
      bin w .sub (.int .i64 64) t36 fun t37 w =>
      bin w .add (at' s1 0) t37 fun t38 w =>
      next1 [t38] w
    ) (
      call Tryz.prog w 183 [t31] fun t41 w =>
      bin w .add (at' s1 0) t41 fun t42 w =>
      nn w t0 fun t45 w =>
      add w 0 t45 fun t46 w =>
      ld w t46 fun t47 w =>
      bin w .lss t42 t47 fun t48 w =>
      Br t48 (
        k (.tuple #[t42, (.bool true)]) w
      ) (
        k (.tuple #[(.int .i64 0), (.bool false)]) w
      )
    )
  ) (
    k (.tuple #[(.int .i64 0), (.bool false)]) w
  )
theorem b_bitmap_Bitmap_find_eq (t0 t1 t2 : Value) (k : K) (w : World) : b_bitmap_Bitmap_find t0 t1 t2 k w = bodyW Tryz.prog [(3, [8])] Tryz.f148 [t0, t1, t2] k w := by kernel_rfl
/-- (*portage/bitmap.Bitmap).find -/
theorem b_bitmap_Bitmap_find_walk {t0 t1 t2 : Value} {k : K} {w : World} (h : b_bitmap_Bitmap_find t0 t1 t2 k w) : call Tryz.prog w 148 [t0, t1, t2] k :=
  calls_of_body Tryz.func148 (b_bitmap_Bitmap_find_eq t0 t1 t2 k w ▸ h) (Nat.le_of_ble_eq_true rfl)
/-! ### (*portage/bitmap.Bitmap).in -/
def b_bitmap_Bitmap_in (t0 t1 : Value) (k : K) (w : World) : Prop :=
  bin w .geq t1 (.int .i64 0) fun t6 w =>
  Br t6 (
    nn w t0 fun t10 w =>
    add w 0 t10 fun t11 w =>
    ld w t11 fun t12 w =>
    bin w .lss t1 t12 fun t13 w =>
    k t13 w
  ) (
    k (.bool false) w
  )
theorem b_bitmap_Bitmap_in_eq (t0 t1 : Value) (k : K) (w : World) : b_bitmap_Bitmap_in t0 t1 k w = bodyW Tryz.prog [] Tryz.f171 [t0, t1] k w := by kernel_rfl
/-- (*portage/bitmap.Bitmap).in -/
theorem b_bitmap_Bitmap_in_walk {t0 t1 : Value} {k : K} {w : World} (h : b_bitmap_Bitmap_in t0 t1 k w) : call Tryz.prog w 171 [t0, t1] k :=
  calls_of_body Tryz.func171 (b_bitmap_Bitmap_in_eq t0 t1 k w ▸ h) (Nat.le_of_ble_eq_true rfl)
/-! ### portage/bitmap.New -/
def b_bitmap_New (t0 : Value) (k : K) (w : World) : Prop :=
  bld w #[(0, 1), (1, 1)] #[.int .i64 0, .slice none 0 0] [] fun t6 w =>
  box w 252 t6 fun t7 w =>
  call Tryz.prog w 142 [t7, t0] fun t10 w =>
  eq w true true .iface t10 .nilIface fun t12 w =>
  Br t12 (
    k (.tuple #[(.pointer none), t10]) w
  ) (
    k (.tuple #[t7, .nilIface]) w
  )
theorem b_bitmap_New_eq (t0 : Value) (k : K) (w : World) : b_bitmap_New t0 k w = bodyW Tryz.prog [] Tryz.f141 [t0] k w := by kernel_rfl
/-- portage/bitmap.New -/
theorem b_bitmap_New_walk {t0 : Value} {k : K} {w : World} (h : b_bitmap_New t0 k w) : call Tryz.prog w 141 [t0] k :=
  calls_of_body Tryz.func141 (b_bitmap_New_eq t0 k w ▸ h) (Nat.le_of_ble_eq_true rfl)
end Go.Proofs.YtemenmmekddjaaaGreatDoor
