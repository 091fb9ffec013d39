/- The bodies of functions, written out by program from the loaded translation; each is held against it by the kernel. No condition. -/
import Derived.Test.YtemenmmekddjaaaGreatDoorProg
import Derived.KernelRfl
import Derived.Test.YtemenmmekddjaaaGreatDoorJ03
set_option linter.all false
set_option linter.unusedVariables false
set_option linter.unusedSimpArgs false
set_option linter.unnecessarySimpa false
set_option linter.unusedSectionVars false
set_option linter.constructorNameAsVariable false
namespace Go.Proofs.YtemenmmekddjaaaGreatDoor
open Go Go.Wx Go.W
set_option maxRecDepth 100000
set_option linter.unusedVariables false
/-! ### bytes.Clone -/
def b_bytes_Clone (t0 : Value) (k : K) (w : World) : Prop :=
  eq w false true .slice t0 (.slice none 0 0) fun t4 w =>
  Br t4 (
    k (.slice none 0 0) w
  ) (
    bldS w 5 0 1 [.int .u8 0] [] fun t5 w =>
    app w 5 1 1 #[.int .u8 0] t5 t0 fun t7 w =>
    k t7 w
  )
theorem b_bytes_Clone_eq (t0 : Value) (k : K) (w : World) : b_bytes_Clone t0 k w = bodyW Tryz.prog [] Tryz.f222 [t0] k w := by kernel_rfl
/-- bytes.Clone -/
theorem b_bytes_Clone_walk {t0 : Value} {k : K} {w : World} (h : b_bytes_Clone t0 k w) : call Tryz.prog w 222 [t0] k :=
  calls_of_body Tryz.func222 (b_bytes_Clone_eq t0 k w ▸ h) (Nat.le_of_ble_eq_true rfl)
/-! ### bytes.Equal -/
def b_bytes_Equal (t0 t1 : Value) (k : K) (w : World) : Prop :=
  raw Tryz.prog w (convert 229 9 t0) fun t6 w =>
  raw Tryz.prog w (convert 229 9 t1) fun t8 w =>
  eq w false false .str t6 t8 fun t9 w =>
  k t9 w
theorem b_bytes_Equal_eq (t0 t1 : Value) (k : K) (w : World) : b_bytes_Equal t0 t1 k w = bodyW Tryz.prog [] Tryz.f244 [t0, t1] k w := by kernel_rfl
/-- bytes.Equal -/
theorem b_bytes_Equal_walk {t0 t1 : Value} {k : K} {w : World} (h : b_bytes_Equal t0 t1 k w) : call Tryz.prog w 244 [t0, t1] k :=
  calls_of_body Tryz.func244 (b_bytes_Equal_eq t0 t1 k w ▸ h) (Nat.le_of_ble_eq_true rfl)
/-! ### errors.Is -/
def b_errors_Is (t0 t1 : Value) (k : K) (w : World) : Prop :=
  eq w false true .iface t0 .nilIface fun t7 w =>
  Br t7 (
    raw Tryz.prog w (do eqGuard .eql 52 (.tmp 12) (.tmp 13) t0 t1; binOp .eql 52 t0 t1) fun t14 w =>
    k t14 w
  ) (
    eq w false true .iface t1 .nilIface fun t10 w =>
    Br t10 (
      raw Tryz.prog w (do eqGuard .eql 52 (.tmp 12) (.tmp 13) t0 t1; binOp .eql 52 t0 t1) fun t14_1 w =>
      k t14_1 w
    ) (
      does Tryz.prog w (callFunc 133 [t1].toArray) fun t16 w =>
      does Tryz.prog w (callMethod t16 "Comparable" [].toArray) fun t17 w =>
      call Tryz.prog w 134 [t0, t1, t17] fun t21 w =>
      k t21 w
    )
  )
theorem b_errors_Is_eq (t0 t1 : Value) (k : K) (w : World) : b_errors_Is t0 t1 k w = bodyW Tryz.prog [] Tryz.f85 [t0, t1] k w := by kernel_rfl
/-- errors.Is -/
theorem b_errors_Is_walk {t0 t1 : Value} {k : K} {w : World} (h : b_errors_Is t0 t1 k w) : call Tryz.prog w 85 [t0, t1] k :=
  calls_of_body Tryz.func85 (b_errors_Is_eq t0 t1 k w ▸ h) (Nat.le_of_ble_eq_true rfl)
/-! ### errors.is -/
def b_errors_is (t0 t1 t2 : Value) (k : K) (w : World) : Prop :=
  loop [t0] w fun J1 s1 next1 w =>
  Br t2 (
    raw Tryz.prog w (do eqGuard .eql 52 (.tmp 16) (.tmp 17) (at' s1 0) t1; binOp .eql 52 (at' s1 0) t1) fun t18 w =>
    Br t18 (
      k (.bool true) w
    ) (
      raw Tryz.prog w (Instr.typeAssert (at' s1 0) 52 265 true) fun t22 w =>
      tup w 0 t22 fun t23 w =>
      tup w 1 t22 fun t24 w =>
      Br t24 (
        does Tryz.prog w (callMethod t23 "Is" [t1].toArray) fun t29 w =>
        Br t29 (
          k (.bool true) w
        ) (
          raw Tryz.prog w (Instr.typeAssert (at' s1 0) 52 268 true) fun t32 w =>
          tup w 1 t32 fun t33 w =>
          tup w 0 t32 fun t34 w =>
          Br t33 (
            does Tryz.prog w (callMethod t34 "Unwrap" [].toArray) fun t36 w =>
            eq w false true .iface t36 .nilIface fun t38 w =>
            Br t38 (
              k (.bool false) w
            ) (
              next1 [t36] w
            )
          ) (
            raw Tryz.prog w (Instr.typeAssert (at' s1 0) 52 269 true) fun t39 w =>
            tup w 1 t39 fun t40 w =>
            tup w 0 t39 fun t41 w =>
            Br t40 (
              does Tryz.prog w (callMethod t41 "Unwrap" [].toArray) fun t43 w =>
              len w t43 fun t44 w =>
              loop [(.int .i64 0)] w fun J2 s2 next2 w =>
              bin w .lss (at' s2 0) t44 fun t46 w =>
              Br t46 (
                idx w 1 t43 (at' s2 0) fun t47 w =>
                ld w t47 fun t48 w =>
                call Tryz.prog w 134 [t48, t1, t2] fun t52 w =>
                Br t52 (
                  k (.bool true) w
                ) (
                  bin w .add (at' s2 0) (.int .i64 1) fun t53 w =>
                  next2 [t53] w
                )
              ) (
                k (.bool false) w
              )
            ) (
              k (.bool false) w
            )
          )
        )
      ) (
        raw Tryz.prog w (Instr.typeAssert (at' s1 0) 52 268 true) fun t32_1 w =>
        tup w 1 t32_1 fun t33_1 w =>
        tup w 0 t32_1 fun t34_1 w =>
        Br t33_1 (
          does Tryz.prog w (callMethod t34_1 "Unwrap" [].toArray) fun t36_1 w =>
          eq w false true .iface t36_1 .nilIface fun t38_1 w =>
          Br t38_1 (
            k (.bool false) w
          ) (
            next1 [t36_1] w
          )
        ) (
          raw Tryz.prog w (Instr.typeAssert (at' s1 0) 52 269 true) fun t39_1 w =>
          tup w 1 t39_1 fun t40_1 w =>
          tup w 0 t39_1 fun t41_1 w =>
          Br t40_1 (
            does Tryz.prog w (callMethod t41_1 "Unwrap" [].toArray) fun t43_1 w =>
            len w t43_1 fun t44_1 w =>
            loop [(.int .i64 0)] w fun J3 s3 next3 w =>
            bin w .lss (at' s3 0) t44_1 fun t46_1 w =>
            Br t46_1 (
              idx w 1 t43_1 (at' s3 0) fun t47_1 w =>
              ld w t47_1 fun t48_1 w =>
              call Tryz.prog w 134 [t48_1, t1, t2] fun t52_1 w =>
              Br t52_1 (
                k (.bool true) w
              ) (
                bin w .add (at' s3 0) (.int .i64 1) fun t53_1 w =>
                next3 [t53_1] w
              )
            ) (
              k (.bool false) w
            )
          ) (
            k (.bool false) w
          )
        )
      )
    )
  ) (
    raw Tryz.prog w (Instr.typeAssert (at' s1 0) 52 265 true) fun t22_1 w =>
    tup w 0 t22_1 fun t23_1 w =>
    tup w 1 t22_1 fun t24_1 w =>
    Br t24_1 (
      does Tryz.prog w (callMethod t23_1 "Is" [t1].toArray) fun t29_1 w =>
      Br t29_1 (
        k (.bool true) w
      ) (
        raw Tryz.prog w (Instr.typeAssert (at' s1 0) 52 268 true) fun t32_2 w =>
        tup w 1 t32_2 fun t33_2 w =>
        tup w 0 t32_2 fun t34_2 w =>
        Br t33_2 (
          does Tryz.prog w (callMethod t34_2 "Unwrap" [].toArray) fun t36_2 w =>
          eq w false true .iface t36_2 .nilIface fun t38_2 w =>
          Br t38_2 (
            k (.bool false) w
          ) (
            next1 [t36_2] w
          )
        ) (
          raw Tryz.prog w (Instr.typeAssert (at' s1 0) 52 269 true) fun t39_2 w =>
          tup w 1 t39_2 fun t40_2 w =>
          tup w 0 t39_2 fun t41_2 w =>
          Br t40_2 (
            does Tryz.prog w (callMethod t41_2 "Unwrap" [].toArray) fun t43_2 w =>
            len w t43_2 fun t44_2 w =>
            loop [(.int .i64 0)] w fun J4 s4 next4 w =>
            bin w .lss (at' s4 0) t44_2 fun t46_2 w =>
            Br t46_2 (
              idx w 1 t43_2 (at' s4 0) fun t47_2 w =>
              ld w t47_2 fun t48_2 w =>
              call Tryz.prog w 134 [t48_2, t1, t2] fun t52_2 w =>
              Br t52_2 (
                k (.bool true) w
              ) (
                bin w .add (at' s4 0) (.int .i64 1) fun t53_2 w =>
                next4 [t53_2] w
              )
            ) (
              k (.bool false) w
            )
          ) (
            k (.bool false) w
          )
        )
      )
    ) (
      raw Tryz.prog w (Instr.typeAssert (at' s1 0) 52 268 true) fun t32_3 w =>
      tup w 1 t32_3 fun t33_3 w =>
      tup w 0 t32_3 fun t34_3 w =>
      Br t33_3 (
        does Tryz.prog w (callMethod t34_3 "Unwrap" [].toArray) fun t36_3 w =>
        eq w false true .iface t36_3 .nilIface fun t38_3 w =>
        Br t38_3 (
          k (.bool false) w
        ) (
          next1 [t36_3] w
        )
      ) (
        raw Tryz.prog w (Instr.typeAssert (at' s1 0) 52 269 true) fun t39_3 w =>
        tup w 1 t39_3 fun t40_3 w =>
        tup w 0 t39_3 fun t41_3 w =>
        Br t40_3 (
          does Tryz.prog w (callMethod t41_3 "Unwrap" [].toArray) fun t43_3 w =>
          len w t43_3 fun t44_3 w =>
          loop [(.int .i64 0)] w fun J5 s5 next5 w =>
          bin w .lss (at' s5 0) t44_3 fun t46_3 w =>
          Br t46_3 (
            idx w 1 t43_3 (at' s5 0) fun t47_3 w =>
            ld w t47_3 fun t48_3 w =>
            call Tryz.prog w 134 [t48_3, t1, t2] fun t52_3 w =>
            Br t52_3 (
              k (.bool true) w
            ) (
              bin w .add (at' s5 0) (.int .i64 1) fun t53_3 w =>
              next5 [t53_3] w
            )
          ) (
            k (.bool false) w
          )
        ) (
          k (.bool false) w
        )
      )
    )
  )
theorem b_errors_is_eq (t0 t1 t2 : Value) (k : K) (w : World) : b_errors_is t0 t1 t2 k w = bodyW Tryz.prog [(1001, [0]), (17, [45])] Tryz.f134 [t0, t1, t2] k w := by kernel_rfl
/-- errors.is -/
theorem b_errors_is_walk {t0 t1 t2 : Value} {k : K} {w : World} (h : b_errors_is t0 t1 t2 k w) : call Tryz.prog w 134 [t0, t1, t2] k :=
  calls_of_body Tryz.func134 (b_errors_is_eq t0 t1 t2 k w ▸ h) (Nat.le_of_ble_eq_true rfl)
/-! ### maps.Clone[map[int]portage/catalog.Volume,int,portage/catalog.Volume] -/
def b_maps_Clone_map_int_catalog_Volume_int_catalog_Volume (t0 : Value) (k : K) (w : World) : Prop :=
  eq w false true .map t0 (.map none) fun t4 w =>
  Br t4 (
    k (.map none) w
  ) (
    does Tryz.prog w (callFunc 170 [(.iface 146 t0)].toArray) fun t7 w =>
    raw Tryz.prog w (Instr.typeAssert t7 20 146 false) fun t8 w =>
    k t8 w
  )
theorem b_maps_Clone_map_int_catalog_Volume_int_catalog_Volume_eq (t0 : Value) (k : K) (w : World) : b_maps_Clone_map_int_catalog_Volume_int_catalog_Volume t0 k w = bodyW Tryz.prog [] Tryz.f168 [t0] k w := by kernel_rfl
/-- maps.Clone[map[int]portage/catalog.Volume,int,portage/catalog.Volume] -/
theorem b_maps_Clone_map_int_catalog_Volume_int_catalog_Volume_walk {t0 : Value} {k : K} {w : World} (h : b_maps_Clone_map_int_catalog_Volume_int_catalog_Volume t0 k w) : call Tryz.prog w 168 [t0] k :=
  calls_of_body Tryz.func168 (b_maps_Clone_map_int_catalog_Volume_int_catalog_Volume_eq t0 k w ▸ h) (Nat.le_of_ble_eq_true rfl)
/-! ### maps.Clone[map[int]portage/pages.page,int,portage/pages.page] -/
def b_maps_Clone_map_int_pages_page_int_pages_page (t0 : Value) (k : K) (w : World) : Prop :=
  eq w false true .map t0 (.map none) fun t4 w =>
  Br t4 (
    k (.map none) w
  ) (
    does Tryz.prog w (callFunc 170 [(.iface 117 t0)].toArray) fun t7 w =>
    raw Tryz.prog w (Instr.typeAssert t7 20 117 false) fun t8 w =>
    k t8 w
  )
theorem b_maps_Clone_map_int_pages_page_int_pages_page_eq (t0 : Value) (k : K) (w : World) : b_maps_Clone_map_int_pages_page_int_pages_page t0 k w = bodyW Tryz.prog [] Tryz.f111 [t0] k w := by kernel_rfl
/-- maps.Clone[map[int]portage/pages.page,int,portage/pages.page] -/
theorem b_maps_Clone_map_int_pages_page_int_pages_page_walk {t0 : Value} {k : K} {w : World} (h : b_maps_Clone_map_int_pages_page_int_pages_page t0 k w) : call Tryz.prog w 111 [t0] k :=
  calls_of_body Tryz.func111 (b_maps_Clone_map_int_pages_page_int_pages_page_eq t0 k w ▸ h) (Nat.le_of_ble_eq_true rfl)
/-! ### maps.DeleteFunc[map[int]int,int,int] -/
def b_maps_DeleteFunc_map_int_int_int_int (t0 t1 : Value) (k : K) (w : World) : Prop :=
  raw Tryz.prog w (Instr.range 63 t0) fun t7 w =>
  loop [] w fun J1 s1 next1 w =>
  raw Tryz.prog w (Instr.next t7 false 0) fun t8 w =>
  tup w 0 t8 fun t9 w =>
  Br t9 (
    raw Tryz.prog w (Instr.entry t7) fun t10 w =>
    tup w 0 t10 fun t11 w =>
    tup w 1 t10 fun t12 w =>
    callV Tryz.prog w t1 [t11, t12] fun t16 w =>
    Br t16 (
      mdel w t0 t11 fun _ w =>
      next1 [] w
    ) (
      next1 [] w
    )
  ) (
    k (.tuple #[]) w
  )
theorem b_maps_DeleteFunc_map_int_int_int_int_eq (t0 t1 : Value) (k : K) (w : World) : b_maps_DeleteFunc_map_int_int_int_int t0 t1 k w = bodyW Tryz.prog [(1, [])] Tryz.f94 [t0, t1] k w := by kernel_rfl
/-- maps.DeleteFunc[map[int]int,int,int] -/
theorem b_maps_DeleteFunc_map_int_int_int_int_walk {t0 t1 : Value} {k : K} {w : World} (h : b_maps_DeleteFunc_map_int_int_int_int t0 t1 k w) : call Tryz.prog w 94 [t0, t1] k :=
  calls_of_body Tryz.func94 (b_maps_DeleteFunc_map_int_int_int_int_eq t0 t1 k w ▸ h) (Nat.le_of_ble_eq_true rfl)
/-! ### maps.Keys[map[int]portage/catalog.Volume,int,portage/catalog.Volume] -/
def b_maps_Keys_map_int_catalog_Volume_int_catalog_Volume (t0 : Value) (k : K) (w : World) : Prop :=
  box w 146 t0 fun t1 w =>
  k (.func (.func 132) #[] #[t1]) w
theorem b_maps_Keys_map_int_catalog_Volume_int_catalog_Volume_eq (t0 : Value) (k : K) (w : World) : b_maps_Keys_map_int_catalog_Volume_int_catalog_Volume t0 k w = bodyW Tryz.prog [] Tryz.f84 [t0] k w := by kernel_rfl
/-- maps.Keys[map[int]portage/catalog.Volume,int,portage/catalog.Volume] -/
theorem b_maps_Keys_map_int_catalog_Volume_int_catalog_Volume_walk {t0 : Value} {k : K} {w : World} (h : b_maps_Keys_map_int_catalog_Volume_int_catalog_Volume t0 k w) : call Tryz.prog w 84 [t0] k :=
  calls_of_body Tryz.func84 (b_maps_Keys_map_int_catalog_Volume_int_catalog_Volume_eq t0 k w ▸ h) (Nat.le_of_ble_eq_true rfl)
/-! ### maps.Keys[map[int]portage/catalog.Volume,int,portage/catalog.Volume]$1 -/
def b_maps_Keys_map_int_catalog_Volume_int_catalog_Volume_c1 (t0 t1 : Value) (k : K) (w : World) : Prop :=
  ld w t1 fun t4 w =>
  raw Tryz.prog w (Instr.range 146 t4) fun t5 w =>
  loop [] w fun J1 s1 next1 w =>
  raw Tryz.prog w (Instr.next t5 false 0) fun t6 w =>
  tup w 0 t6 fun t7 w =>
  Br t7 (
    raw Tryz.prog w (Instr.entry t5) fun t8 w =>
    tup w 0 t8 fun t9 w =>
    callV Tryz.prog w t0 [t9] fun t12 w =>
    un w .not t12 fun t13 w =>
    Br t13 (
      k (.tuple #[]) w
    ) (
      next1 [] w
    )
  ) (
    k (.tuple #[]) w
  )
theorem b_maps_Keys_map_int_catalog_Volume_int_catalog_Volume_c1_eq (t0 t1 : Value) (k : K) (w : World) : b_maps_Keys_map_int_catalog_Volume_int_catalog_Volume_c1 t0 t1 k w = bodyW Tryz.prog [(1, [])] Tryz.f132 [t0, t1] k w := by kernel_rfl
/-- maps.Keys[map[int]portage/catalog.Volume,int,portage/catalog.Volume]$1 -/
theorem b_maps_Keys_map_int_catalog_Volume_int_catalog_Volume_c1_walk {t0 t1 : Value} {k : K} {w : World} (h : b_maps_Keys_map_int_catalog_Volume_int_catalog_Volume_c1 t0 t1 k w) : call Tryz.prog w 132 [t0, t1] k :=
  calls_of_body Tryz.func132 (b_maps_Keys_map_int_catalog_Volume_int_catalog_Volume_c1_eq t0 t1 k w ▸ h) (Nat.le_of_ble_eq_true rfl)
/-! ### maps.Keys[map[int]portage/pages.page,int,portage/pages.page] -/
def b_maps_Keys_map_int_pages_page_int_pages_page (t0 : Value) (k : K) (w : World) : Prop :=
  box w 117 t0 fun t1 w =>
  k (.func (.func 117) #[] #[t1]) w
theorem b_maps_Keys_map_int_pages_page_int_pages_page_eq (t0 : Value) (k : K) (w : World) : b_maps_Keys_map_int_pages_page_int_pages_page t0 k w = bodyW Tryz.prog [] Tryz.f64 [t0] k w := by kernel_rfl
/-- maps.Keys[map[int]portage/pages.page,int,portage/pages.page] -/
theorem b_maps_Keys_map_int_pages_page_int_pages_page_walk {t0 : Value} {k : K} {w : World} (h : b_maps_Keys_map_int_pages_page_int_pages_page t0 k w) : call Tryz.prog w 64 [t0] k :=
  calls_of_body Tryz.func64 (b_maps_Keys_map_int_pages_page_int_pages_page_eq t0 k w ▸ h) (Nat.le_of_ble_eq_true rfl)
/-! ### maps.Keys[map[int]portage/pages.page,int,portage/pages.page]$1 -/
def b_maps_Keys_map_int_pages_page_int_pages_page_c1 (t0 t1 : Value) (k : K) (w : World) : Prop :=
  ld w t1 fun t4 w =>
  raw Tryz.prog w (Instr.range 117 t4) fun t5 w =>
  loop [] w fun J1 s1 next1 w =>
  raw Tryz.prog w (Instr.next t5 false 0) fun t6 w =>
  tup w 0 t6 fun t7 w =>
  Br t7 (
    raw Tryz.prog w (Instr.entry t5) fun t8 w =>
    tup w 0 t8 fun t9 w =>
    callV Tryz.prog w t0 [t9] fun t12 w =>
    un w .not t12 fun t13 w =>
    Br t13 (
      k (.tuple #[]) w
    ) (
      next1 [] w
    )
  ) (
    k (.tuple #[]) w
  )
theorem b_maps_Keys_map_int_pages_page_int_pages_page_c1_eq (t0 t1 : Value) (k : K) (w : World) : b_maps_Keys_map_int_pages_page_int_pages_page_c1 t0 t1 k w = bodyW Tryz.prog [(1, [])] Tryz.f117 [t0, t1] k w := by kernel_rfl
/-- maps.Keys[map[int]portage/pages.page,int,portage/pages.page]$1 -/
theorem b_maps_Keys_map_int_pages_page_int_pages_page_c1_walk {t0 t1 : Value} {k : K} {w : World} (h : b_maps_Keys_map_int_pages_page_int_pages_page_c1 t0 t1 k w) : call Tryz.prog w 117 [t0, t1] k :=
  calls_of_body Tryz.func117 (b_maps_Keys_map_int_pages_page_int_pages_page_c1_eq t0 t1 k w ▸ h) (Nat.le_of_ble_eq_true rfl)
/-! ### math/bits.OnesCount64 -/
def b_math_bits_OnesCount64 (t0 : Value) (k : K) (w : World) : Prop :=
  bin w .shr t0 (.int .u64 1) fun t4 w =>
  bin w .and t4 (.int .u64 6148914691236517205) fun t5 w =>
  bin w .and t0 (.int .u64 6148914691236517205) fun t7 w =>
  bin w .add t5 t7 fun t8 w =>
  bin w .shr t8 (.int .u64 2) fun t10 w =>
  bin w .and t10 (.int .u64 3689348814741910323) fun t11 w =>
  bin w .and t8 (.int .u64 3689348814741910323) fun t13 w =>
  bin w .add t11 t13 fun t14 w =>
  bin w .shr t14 (.int .u64 4) fun t16 w =>
  bin w .add t16 t14 fun t18 w =>
  bin w .and t18 (.int .u64 1085102592571150095) fun t19 w =>
  bin w .shr t19 (.int .u64 8) fun t22 w =>
  bin w .add t19 t22 fun t23 w =>
  bin w .shr t23 (.int .u64 16) fun t26 w =>
  bin w .add t23 t26 fun t27 w =>
  bin w .shr t27 (.int .u64 32) fun t30 w =>
  bin w .add t27 t30 fun t31 w =>
  conv w .i64 t31 fun t33 w =>
  bin w .and t33 (.int .i64 127) fun t34 w =>
  k t34 w
theorem b_math_bits_OnesCount64_eq (t0 : Value) (k : K) (w : World) : b_math_bits_OnesCount64 t0 k w = bodyW Tryz.prog [] Tryz.f218 [t0] k w := by kernel_rfl
/-- math/bits.OnesCount64 -/
theorem b_math_bits_OnesCount64_walk {t0 : Value} {k : K} {w : World} (h : b_math_bits_OnesCount64 t0 k w) : call Tryz.prog w 218 [t0] k :=
  calls_of_body Tryz.func218 (b_math_bits_OnesCount64_eq t0 k w ▸ h) (Nat.le_of_ble_eq_true rfl)
/-! ### math/bits.TrailingZeros64 -/
def b_math_bits_TrailingZeros64 (t0 : Value) (k : K) (w : World) : Prop :=
  bin w .eql t0 (.int .u64 0) fun t4 w =>
  Br t4 (
    k (.int .i64 64) w
  ) (
    un w .neg t0 fun t7 w =>
    bin w .and t0 t7 fun t8 w =>
    bin w .mul t8 (.int .u64 285870213051353865) fun t9 w =>
    bin w .shr t9 (.int .u64 58) fun t10 w =>
    idxA w 64 1 (.pointer (some ⟨0, 0, none⟩)) t10 fun t11 w =>
    ld w t11 fun t12 w =>
    conv w .i64 t12 fun t13 w =>
    k t13 w
  )
theorem b_math_bits_TrailingZeros64_eq (t0 : Value) (k : K) (w : World) : b_math_bits_TrailingZeros64 t0 k w = bodyW Tryz.prog [] Tryz.f183 [t0] k w := by kernel_rfl
/-- math/bits.TrailingZeros64 -/
theorem b_math_bits_TrailingZeros64_walk {t0 : Value} {k : K} {w : World} (h : b_math_bits_TrailingZeros64 t0 k w) : call Tryz.prog w 183 [t0] k :=
  calls_of_body Tryz.func183 (b_math_bits_TrailingZeros64_eq t0 k w ▸ h) (Nat.le_of_ble_eq_true rfl)
/-! ### slices.Backward[[]int,int] -/
def b_slices_Backward_int_int (t0 : Value) (k : K) (w : World) : Prop :=
  box w 22 t0 fun t1 w =>
  k (.func (.func 182) #[] #[t1]) w
theorem b_slices_Backward_int_int_eq (t0 : Value) (k : K) (w : World) : b_slices_Backward_int_int t0 k w = bodyW Tryz.prog [] Tryz.f146 [t0] k w := by kernel_rfl
/-- slices.Backward[[]int,int] -/
theorem b_slices_Backward_int_int_walk {t0 : Value} {k : K} {w : World} (h : b_slices_Backward_int_int t0 k w) : call Tryz.prog w 146 [t0] k :=
  calls_of_body Tryz.func146 (b_slices_Backward_int_int_eq t0 k w ▸ h) (Nat.le_of_ble_eq_true rfl)
/-! ### slices.Backward[[]int,int]$1 -/
def b_slices_Backward_int_int_c1 (t0 t1 : Value) (k : K) (w : World) : Prop :=
  ld w t1 fun t4 w =>
  len w t4 fun t5 w =>
  bin w .sub t5 (.int .i64 1) fun t6 w =>
  loop [t6] w fun J1 s1 next1 w =>
  bin w .geq (at' s1 0) (.int .i64 0) fun t8 w =>
  Br t8 (
    ld w t1 fun t13 w =>
    idx w 1 t13 (at' s1 0) fun t15 w =>
    ld w t15 fun t16 w =>
    callV Tryz.prog w t0 [(at' s1 0), t16] fun t17 w =>
    un w .not t17 fun t18 w =>
    Br t18 (
      k (.tuple #[]) w
    ) (
      bin w .sub (at' s1 0) (.int .i64 1) fun t10 w =>
      next1 [t10] w
    )
  ) (
    k (.tuple #[]) w
  )
theorem b_slices_Backward_int_int_c1_eq (t0 t1 : Value) (k : K) (w : World) : b_slices_Backward_int_int_c1 t0 t1 k w = bodyW Tryz.prog [(1, [3])] Tryz.f182 [t0, t1] k w := by kernel_rfl
/-- slices.Backward[[]int,int]$1 -/
theorem b_slices_Backward_int_int_c1_walk {t0 t1 : Value} {k : K} {w : World} (h : b_slices_Backward_int_int_c1 t0 t1 k w) : call Tryz.prog w 182 [t0, t1] k :=
  calls_of_body Tryz.func182 (b_slices_Backward_int_int_c1_eq t0 t1 k w ▸ h) (Nat.le_of_ble_eq_true rfl)
/-! ### slices.Clone[[]portage/roster.Entry,portage/roster.Entry] -/
def b_slices_Clone_roster_Entry_roster_Entry (t0 : Value) (k : K) (w : World) : Prop :=
  eq w false true .slice t0 (.slice none 0 0) fun t4 w =>
  Br t4 (
    k (.slice none 0 0) w
  ) (
    bldS w 95 0 2 [.int .i64 0, .int .i64 0] [] fun t5 w =>
    app w 95 2 16 #[.int .i64 0, .int .i64 0] t5 t0 fun t7 w =>
    k t7 w
  )
theorem b_slices_Clone_roster_Entry_roster_Entry_eq (t0 : Value) (k : K) (w : World) : b_slices_Clone_roster_Entry_roster_Entry t0 k w = bodyW Tryz.prog [] Tryz.f135 [t0] k w := by kernel_rfl
/-- slices.Clone[[]portage/roster.Entry,portage/roster.Entry] -/
theorem b_slices_Clone_roster_Entry_roster_Entry_walk {t0 : Value} {k : K} {w : World} (h : b_slices_Clone_roster_Entry_roster_Entry t0 k w) : call Tryz.prog w 135 [t0] k :=
  calls_of_body Tryz.func135 (b_slices_Clone_roster_Entry_roster_Entry_eq t0 k w ▸ h) (Nat.le_of_ble_eq_true rfl)
/-! ### slices.Collect[int] -/
def b_slices_Collect_int (t0 : Value) (k : K) (w : World) : Prop :=
  call Tryz.prog w 174 [(.slice none 0 0), t0] fun t4 w =>
  k t4 w
theorem b_slices_Collect_int_eq (t0 : Value) (k : K) (w : World) : b_slices_Collect_int t0 k w = bodyW Tryz.prog [] Tryz.f115 [t0] k w := by kernel_rfl
/-- slices.Collect[int] -/
theorem b_slices_Collect_int_walk {t0 : Value} {k : K} {w : World} (h : b_slices_Collect_int t0 k w) : call Tryz.prog w 115 [t0] k :=
  calls_of_body Tryz.func115 (b_slices_Collect_int_eq t0 k w ▸ h) (Nat.le_of_ble_eq_true rfl)
/-! ### slices.ContainsFunc[[]byte,byte] -/
def b_slices_ContainsFunc_byte_byte (t0 t1 : Value) (k : K) (w : World) : Prop :=
  call Tryz.prog w 256 [t0, t1] fun t7 w =>
  bin w .geq t7 (.int .i64 0) fun t8 w =>
  k t8 w
theorem b_slices_ContainsFunc_byte_byte_eq (t0 t1 : Value) (k : K) (w : World) : b_slices_ContainsFunc_byte_byte t0 t1 k w = bodyW Tryz.prog [] Tryz.f254 [t0, t1] k w := by kernel_rfl
/-- slices.ContainsFunc[[]byte,byte] -/
theorem b_slices_ContainsFunc_byte_byte_walk {t0 t1 : Value} {k : K} {w : World} (h : b_slices_ContainsFunc_byte_byte t0 t1 k w) : call Tryz.prog w 254 [t0, t1] k :=
  calls_of_body Tryz.func254 (b_slices_ContainsFunc_byte_byte_eq t0 t1 k w ▸ h) (Nat.le_of_ble_eq_true rfl)
/-! ### slices.ContainsFunc[[]portage/catalog.Volume,portage/catalog.Volume] -/
def b_slices_ContainsFunc_catalog_Volume_catalog_Volume (t0 t1 : Value) (k : K) (w : World) : Prop :=
  call Tryz.prog w 187 [t0, t1] fun t7 w =>
  bin w .geq t7 (.int .i64 0) fun t8 w =>
  k t8 w
theorem b_slices_ContainsFunc_catalog_Volume_catalog_Volume_eq (t0 t1 : Value) (k : K) (w : World) : b_slices_ContainsFunc_catalog_Volume_catalog_Volume t0 t1 k w = bodyW Tryz.prog [] Tryz.f152 [t0, t1] k w := by kernel_rfl
/-- slices.ContainsFunc[[]portage/catalog.Volume,portage/catalog.Volume] -/
theorem b_slices_ContainsFunc_catalog_Volume_catalog_Volume_walk {t0 t1 : Value} {k : K} {w : World} (h : b_slices_ContainsFunc_catalog_Volume_catalog_Volume t0 t1 k w) : call Tryz.prog w 152 [t0, t1] k :=
  calls_of_body Tryz.func152 (b_slices_ContainsFunc_catalog_Volume_catalog_Volume_eq t0 t1 k w ▸ h) (Nat.le_of_ble_eq_true rfl)
/-! ### slices.ContainsFunc[[]int,int] -/
def b_slices_ContainsFunc_int_int (t0 t1 : Value) (k : K) (w : World) : Prop :=
  call Tryz.prog w 225 [t0, t1] fun t7 w =>
  bin w .geq t7 (.int .i64 0) fun t8 w =>
  k t8 w
theorem b_slices_ContainsFunc_int_int_eq (t0 t1 : Value) (k : K) (w : World) : b_slices_ContainsFunc_int_int t0 t1 k w = bodyW Tryz.prog [] Tryz.f193 [t0, t1] k w := by kernel_rfl
/-- slices.ContainsFunc[[]int,int] -/
theorem b_slices_ContainsFunc_int_int_walk {t0 t1 : Value} {k : K} {w : World} (h : b_slices_ContainsFunc_int_int t0 t1 k w) : call Tryz.prog w 193 [t0, t1] k :=
  calls_of_body Tryz.func193 (b_slices_ContainsFunc_int_int_eq t0 t1 k w ▸ h) (Nat.le_of_ble_eq_true rfl)
/-! ### slices.ContainsFunc[[]portage/node.Pair,portage/node.Pair] -/
def b_slices_ContainsFunc_node_Pair_node_Pair (t0 t1 : Value) (k : K) (w : World) : Prop :=
  call Tryz.prog w 131 [t0, t1] fun t7 w =>
  bin w .geq t7 (.int .i64 0) fun t8 w =>
  k t8 w
theorem b_slices_ContainsFunc_node_Pair_node_Pair_eq (t0 t1 : Value) (k : K) (w : World) : b_slices_ContainsFunc_node_Pair_node_Pair t0 t1 k w = bodyW Tryz.prog [] Tryz.f82 [t0, t1] k w := by kernel_rfl
/-- slices.ContainsFunc[[]portage/node.Pair,portage/node.Pair] -/
theorem b_slices_ContainsFunc_node_Pair_node_Pair_walk {t0 t1 : Value} {k : K} {w : World} (h : b_slices_ContainsFunc_node_Pair_node_Pair t0 t1 k w) : call Tryz.prog w 82 [t0, t1] k :=
  calls_of_body Tryz.func82 (b_slices_ContainsFunc_node_Pair_node_Pair_eq t0 t1 k w ▸ h) (Nat.le_of_ble_eq_true rfl)
/-! ### slices.ContainsFunc[[]portage/roster.Entry,portage/roster.Entry] -/
def b_slices_ContainsFunc_roster_Entry_roster_Entry (t0 t1 : Value) (k : K) (w : World) : Prop :=
  call Tryz.prog w 181 [t0, t1] fun t7 w =>
  bin w .geq t7 (.int .i64 0) fun t8 w =>
  k t8 w
theorem b_slices_ContainsFunc_roster_Entry_roster_Entry_eq (t0 t1 : Value) (k : K) (w : World) : b_slices_ContainsFunc_roster_Entry_roster_Entry t0 t1 k w = bodyW Tryz.prog [] Tryz.f137 [t0, t1] k w := by kernel_rfl
/-- slices.ContainsFunc[[]portage/roster.Entry,portage/roster.Entry] -/
theorem b_slices_ContainsFunc_roster_Entry_roster_Entry_walk {t0 t1 : Value} {k : K} {w : World} (h : b_slices_ContainsFunc_roster_Entry_roster_Entry t0 t1 k w) : call Tryz.prog w 137 [t0, t1] k :=
  calls_of_body Tryz.func137 (b_slices_ContainsFunc_roster_Entry_roster_Entry_eq t0 t1 k w ▸ h) (Nat.le_of_ble_eq_true rfl)
/-! ### slices.Contains[[]int,int] -/
def b_slices_Contains_int_int (t0 t1 : Value) (k : K) (w : World) : Prop :=
  call Tryz.prog w 145 [t0, t1] fun t7 w =>
  bin w .geq t7 (.int .i64 0) fun t8 w =>
  k t8 w
theorem b_slices_Contains_int_int_eq (t0 t1 : Value) (k : K) (w : World) : b_slices_Contains_int_int t0 t1 k w = bodyW Tryz.prog [] Tryz.f96 [t0, t1] k w := by kernel_rfl
/-- slices.Contains[[]int,int] -/
theorem b_slices_Contains_int_int_walk {t0 t1 : Value} {k : K} {w : World} (h : b_slices_Contains_int_int t0 t1 k w) : call Tryz.prog w 96 [t0, t1] k :=
  calls_of_body Tryz.func96 (b_slices_Contains_int_int_eq t0 t1 k w ▸ h) (Nat.le_of_ble_eq_true rfl)
/-! ### slices.Delete[[]portage/node.Pair,portage/node.Pair] -/
def b_slices_Delete_node_Pair_node_Pair (t0 t1 t2 : Value) (k : K) (w : World) : Prop :=
  len w t0 fun t12 w =>
  cut w 2 t0 (some t1) (some t2) (some t12) fun t13 w =>
  bin w .eql t1 t2 fun t16 w =>
  Br t16 (
    k t0 w
  ) (
    len w t0 fun t19 w =>
    draw w fun w =>
    cut w 2 t0 none (some t1) none fun t22 w =>
    cut w 2 t0 (some t2) none none fun t25 w =>
    app w 151 2 16 #[.int .i64 0, .int .i64 0] t22 t25 fun t26 w =>
    len w t26 fun t29 w =>
    cut w 2 t26 (some t29) (some t19) none fun t31 w =>
    clr w #[.int .i64 0, .int .i64 0] t31 fun _ w =>
    k t26 w
  )
theorem b_slices_Delete_node_Pair_node_Pair_eq (t0 t1 t2 : Value) (k : K) (w : World) : b_slices_Delete_node_Pair_node_Pair t0 t1 t2 k w = bodyW Tryz.prog [] Tryz.f179 [t0, t1, t2] k w := by kernel_rfl
/-- slices.Delete[[]portage/node.Pair,portage/node.Pair] -/
theorem b_slices_Delete_node_Pair_node_Pair_walk {t0 t1 t2 : Value} {k : K} {w : World} (h : b_slices_Delete_node_Pair_node_Pair t0 t1 t2 k w) : call Tryz.prog w 179 [t0, t1, t2] k :=
  calls_of_body Tryz.func179 (b_slices_Delete_node_Pair_node_Pair_eq t0 t1 t2 k w ▸ h) (Nat.le_of_ble_eq_true rfl)
/-! ### slices.Equal[[]portage/node.Pair,portage/node.Pair] -/
def b_slices_Equal_node_Pair_node_Pair (t0 t1 : Value) (k : K) (w : World) : Prop :=
  len w t0 fun t7 w =>
  len w t1 fun t9 w =>
  bin w .neq t7 t9 fun t10 w =>
  Br t10 (
    k (.bool false) w
  ) (
    len w t0 fun t12 w =>
    loop [(.int .i64 0)] w fun J1 s1 next1 w =>
    bin w .lss (at' s1 0) t12 fun t14 w =>
    Br t14 (
      drawS w fun S w =>
      idx w 2 t0 (at' s1 0) fun t18 w =>
      idx w 2 t1 (at' s1 0) fun t22 w =>
      held S w (fun w k => ldN w 2 t18 k) fun t19 w =>
      held S w (fun w k => ldN w 2 t22 k) fun t23 w =>
      raw Tryz.prog w (do eqGuard .neq 151 (.tmp 19) (.tmp 23) t19 t23; binOp .neq 151 t19 t23) fun t24 w =>
      Br t24 (
        k (.bool false) w
      ) (
        bin w .add (at' s1 0) (.int .i64 1) fun t25 w =>
        next1 [t25] w
      )
    ) (
      k (.bool true) w
    )
  )
theorem b_slices_Equal_node_Pair_node_Pair_eq (t0 t1 : Value) (k : K) (w : World) : b_slices_Equal_node_Pair_node_Pair t0 t1 k w = bodyW Tryz.prog [(4, [13])] Tryz.f153 [t0, t1] k w := by kernel_rfl
/-- slices.Equal[[]portage/node.Pair,portage/node.Pair] -/
theorem b_slices_Equal_node_Pair_node_Pair_walk {t0 t1 : Value} {k : K} {w : World} (h : b_slices_Equal_node_Pair_node_Pair t0 t1 k w) : call Tryz.prog w 153 [t0, t1] k :=
  calls_of_body Tryz.func153 (b_slices_Equal_node_Pair_node_Pair_eq t0 t1 k w ▸ h) (Nat.le_of_ble_eq_true rfl)
/-! ### slices.IndexFunc[[]byte,byte] -/
def b_slices_IndexFunc_byte_byte (t0 t1 : Value) (k : K) (w : World) : Prop :=
  len w t0 fun t7 w =>
  loop [(.int .i64 0)] w fun J1 s1 next1 w =>
  bin w .lss (at' s1 0) t7 fun t9 w =>
  Br t9 (
    idx w 1 t0 (at' s1 0) fun t14 w =>
    ld w t14 fun t15 w =>
    callV Tryz.prog w t1 [t15] fun t16 w =>
    Br t16 (
      k (at' s1 0) w
    ) (
      bin w .add (at' s1 0) (.int .i64 1) fun t18 w =>
      next1 [t18] w
    )
  ) (
    k (.int .i64 (-1)) w
  )
theorem b_slices_IndexFunc_byte_byte_eq (t0 t1 : Value) (k : K) (w : World) : b_slices_IndexFunc_byte_byte t0 t1 k w = bodyW Tryz.prog [(2, [8])] Tryz.f256 [t0, t1] k w := by kernel_rfl
/-- slices.IndexFunc[[]byte,byte] -/
theorem b_slices_IndexFunc_byte_byte_walk {t0 t1 : Value} {k : K} {w : World} (h : b_slices_IndexFunc_byte_byte t0 t1 k w) : call Tryz.prog w 256 [t0, t1] k :=
  calls_of_body Tryz.func256 (b_slices_IndexFunc_byte_byte_eq t0 t1 k w ▸ h) (Nat.le_of_ble_eq_true rfl)
/-! ### slices.IndexFunc[[]portage/catalog.Volume,portage/catalog.Volume] -/
def b_slices_IndexFunc_catalog_Volume_catalog_Volume (t0 t1 : Value) (k : K) (w : World) : Prop :=
  len w t0 fun t7 w =>
  loop [(.int .i64 0)] w fun J1 s1 next1 w =>
  bin w .lss (at' s1 0) t7 fun t9 w =>
  Br t9 (
    idx w 4 t0 (at' s1 0) fun t14 w =>
    ldN w 4 t14 fun t15 w =>
    callV Tryz.prog w t1 [t15] fun t16 w =>
    Br t16 (
      k (at' s1 0) w
    ) (
      bin w .add (at' s1 0) (.int .i64 1) fun t18 w =>
      next1 [t18] w
    )
  ) (
    k (.int .i64 (-1)) w
  )
theorem b_slices_IndexFunc_catalog_Volume_catalog_Volume_eq (t0 t1 : Value) (k : K) (w : World) : b_slices_IndexFunc_catalog_Volume_catalog_Volume t0 t1 k w = bodyW Tryz.prog [(2, [8])] Tryz.f187 [t0, t1] k w := by kernel_rfl
/-- slices.IndexFunc[[]portage/catalog.Volume,portage/catalog.Volume] -/
theorem b_slices_IndexFunc_catalog_Volume_catalog_Volume_walk {t0 t1 : Value} {k : K} {w : World} (h : b_slices_IndexFunc_catalog_Volume_catalog_Volume t0 t1 k w) : call Tryz.prog w 187 [t0, t1] k :=
  calls_of_body Tryz.func187 (b_slices_IndexFunc_catalog_Volume_catalog_Volume_eq t0 t1 k w ▸ h) (Nat.le_of_ble_eq_true rfl)
/-! ### slices.IndexFunc[[]int,int] -/
def b_slices_IndexFunc_int_int (t0 t1 : Value) (k : K) (w : World) : Prop :=
  len w t0 fun t7 w =>
  loop [(.int .i64 0)] w fun J1 s1 next1 w =>
  bin w .lss (at' s1 0) t7 fun t9 w =>
  Br t9 (
    idx w 1 t0 (at' s1 0) fun t14 w =>
    ld w t14 fun t15 w =>
    callV Tryz.prog w t1 [t15] fun t16 w =>
    Br t16 (
      k (at' s1 0) w
    ) (
      bin w .add (at' s1 0) (.int .i64 1) fun t18 w =>
      next1 [t18] w
    )
  ) (
    k (.int .i64 (-1)) w
  )
theorem b_slices_IndexFunc_int_int_eq (t0 t1 : Value) (k : K) (w : World) : b_slices_IndexFunc_int_int t0 t1 k w = bodyW Tryz.prog [(2, [8])] Tryz.f225 [t0, t1] k w := by kernel_rfl
/-- slices.IndexFunc[[]int,int] -/
theorem b_slices_IndexFunc_int_int_walk {t0 t1 : Value} {k : K} {w : World} (h : b_slices_IndexFunc_int_int t0 t1 k w) : call Tryz.prog w 225 [t0, t1] k :=
  calls_of_body Tryz.func225 (b_slices_IndexFunc_int_int_eq t0 t1 k w ▸ h) (Nat.le_of_ble_eq_true rfl)
/-! ### slices.IndexFunc[[]portage/node.Pair,portage/node.Pair] -/
def b_slices_IndexFunc_node_Pair_node_Pair (t0 t1 : Value) (k : K) (w : World) : Prop :=
  len w t0 fun t7 w =>
  loop [(.int .i64 0)] w fun J1 s1 next1 w =>
  bin w .lss (at' s1 0) t7 fun t9 w =>
  Br t9 (
    idx w 2 t0 (at' s1 0) fun t14 w =>
    ldN w 2 t14 fun t15 w =>
    callV Tryz.prog w t1 [t15] fun t16 w =>
    Br t16 (
      k (at' s1 0) w
    ) (
      bin w .add (at' s1 0) (.int .i64 1) fun t18 w =>
      next1 [t18] w
    )
  ) (
    k (.int .i64 (-1)) w
  )
theorem b_slices_IndexFunc_node_Pair_node_Pair_eq (t0 t1 : Value) (k : K) (w : World) : b_slices_IndexFunc_node_Pair_node_Pair t0 t1 k w = bodyW Tryz.prog [(2, [8])] Tryz.f131 [t0, t1] k w := by kernel_rfl
/-- slices.IndexFunc[[]portage/node.Pair,portage/node.Pair] -/
theorem b_slices_IndexFunc_node_Pair_node_Pair_walk {t0 t1 : Value} {k : K} {w : World} (h : b_slices_IndexFunc_node_Pair_node_Pair t0 t1 k w) : call Tryz.prog w 131 [t0, t1] k :=
  calls_of_body Tryz.func131 (b_slices_IndexFunc_node_Pair_node_Pair_eq t0 t1 k w ▸ h) (Nat.le_of_ble_eq_true rfl)
/-! ### slices.IndexFunc[[]portage/roster.Entry,portage/roster.Entry] -/
def b_slices_IndexFunc_roster_Entry_roster_Entry (t0 t1 : Value) (k : K) (w : World) : Prop :=
  len w t0 fun t7 w =>
  loop [(.int .i64 0)] w fun J1 s1 next1 w =>
  bin w .lss (at' s1 0) t7 fun t9 w =>
  Br t9 (
    idx w 2 t0 (at' s1 0) fun t14 w =>
    ldN w 2 t14 fun t15 w =>
    callV Tryz.prog w t1 [t15] fun t16 w =>
    Br t16 (
      k (at' s1 0) w
    ) (
      bin w .add (at' s1 0) (.int .i64 1) fun t18 w =>
      next1 [t18] w
    )
  ) (
    k (.int .i64 (-1)) w
  )
theorem b_slices_IndexFunc_roster_Entry_roster_Entry_eq (t0 t1 : Value) (k : K) (w : World) : b_slices_IndexFunc_roster_Entry_roster_Entry t0 t1 k w = bodyW Tryz.prog [(2, [8])] Tryz.f181 [t0, t1] k w := by kernel_rfl
/-- slices.IndexFunc[[]portage/roster.Entry,portage/roster.Entry] -/
theorem b_slices_IndexFunc_roster_Entry_roster_Entry_walk {t0 t1 : Value} {k : K} {w : World} (h : b_slices_IndexFunc_roster_Entry_roster_Entry t0 t1 k w) : call Tryz.prog w 181 [t0, t1] k :=
  calls_of_body Tryz.func181 (b_slices_IndexFunc_roster_Entry_roster_Entry_eq t0 t1 k w ▸ h) (Nat.le_of_ble_eq_true rfl)
/-! ### slices.Index[[]int,int] -/
def b_slices_Index_int_int (t0 t1 : Value) (k : K) (w : World) : Prop :=
  len w t0 fun t7 w =>
  loop [(.int .i64 0)] w fun J1 s1 next1 w =>
  bin w .lss (at' s1 0) t7 fun t9 w =>
  Br t9 (
    idx w 1 t0 (at' s1 0) fun t14 w =>
    ld w t14 fun t15 w =>
    bin w .eql t1 t15 fun t16 w =>
    Br t16 (
      k (at' s1 0) w
    ) (
      bin w .add (at' s1 0) (.int .i64 1) fun t18 w =>
      next1 [t18] w
    )
  ) (
    k (.int .i64 (-1)) w
  )
theorem b_slices_Index_int_int_eq (t0 t1 : Value) (k : K) (w : World) : b_slices_Index_int_int t0 t1 k w = bodyW Tryz.prog [(2, [8])] Tryz.f145 [t0, t1] k w := by kernel_rfl
/-- slices.Index[[]int,int] -/
theorem b_slices_Index_int_int_walk {t0 t1 : Value} {k : K} {w : World} (h : b_slices_Index_int_int t0 t1 k w) : call Tryz.prog w 145 [t0, t1] k :=
  calls_of_body Tryz.func145 (b_slices_Index_int_int_eq t0 t1 k w ▸ h) (Nat.le_of_ble_eq_true rfl)
/-! ### slices.Insert[[]portage/node.Pair,portage/node.Pair] -/
def b_slices_Insert_node_Pair_node_Pair (t0 t1 t2 : Value) (k : K) (w : World) : Prop :=
  cut w 2 t0 (some t1) none none fun t12 w =>
  len w t2 fun t14 w =>
  bin w .eql t14 (.int .i64 0) fun t16 w =>
  Br t16 (
    k t0 w
  ) (
    len w t0 fun t19 w =>
    bin w .eql t1 t19 fun t22 w =>
    Br t22 (
      app w 151 2 16 #[.int .i64 0, .int .i64 0] t0 t2 fun t25 w =>
      k t25 w
    ) (
      bin w .add t19 t14 fun t28 w =>
      cap w t0 fun t30 w =>
      bin w .gtr t28 t30 fun t31 w =>
      Br t31 (
        cut w 2 t0 none (some t1) none fun t34 w =>
        bin w .add t19 t14 fun t37 w =>
        bin w .sub t37 t1 fun t39 w =>
        appZ w 151 2 16 #[.int .i64 0, .int .i64 0] t34 t39 fun t40 w =>
        cut w 2 t40 (some t1) none none fun t43 w =>
        cpy w 2 t43 t2 fun t45 w =>
        draw w fun w =>
        bin w .add t1 t14 fun t49 w =>
        cut w 2 t40 (some t49) none none fun t50 w =>
        cut w 2 t0 (some t1) none none fun t53 w =>
        cpy w 2 t50 t53 fun t54 w =>
        k t40 w
      ) (
        bin w .add t19 t14 fun t59 w =>
        cut w 2 t0 none (some t59) none fun t60 w =>
        bin w .add t1 t14 fun t65 w =>
        cut w 2 t60 (some t65) none none fun t66 w =>
        does Tryz.prog w (callFunc 202 [t2, t66].toArray) fun t67 w =>
        un w .not t67 fun t68 w =>
        Br t68 (
          draw w fun w =>
          bin w .add t1 t14 fun t72 w =>
          cut w 2 t60 (some t72) none none fun t73 w =>
          cut w 2 t60 (some t1) none none fun t76 w =>
          cpy w 2 t73 t76 fun t77 w =>
          cut w 2 t60 (some t1) none none fun t80 w =>
          cpy w 2 t80 t2 fun t82 w =>
          k t60 w
        ) (
          cut w 2 t60 (some t19) none none fun t86 w =>
          cpy w 2 t86 t2 fun t88 w =>
          cut w 2 t60 (some t1) none none fun t91 w =>
          call Tryz.prog w 203 [t91, t14] fun t93 w =>
          k t60 w
        )
      )
    )
  )
theorem b_slices_Insert_node_Pair_node_Pair_eq (t0 t1 t2 : Value) (k : K) (w : World) : b_slices_Insert_node_Pair_node_Pair t0 t1 t2 k w = bodyW Tryz.prog [] Tryz.f165 [t0, t1, t2] k w := by kernel_rfl
/-- slices.Insert[[]portage/node.Pair,portage/node.Pair] -/
theorem b_slices_Insert_node_Pair_node_Pair_walk {t0 t1 t2 : Value} {k : K} {w : World} (h : b_slices_Insert_node_Pair_node_Pair t0 t1 t2 k w) : call Tryz.prog w 165 [t0, t1, t2] k :=
  calls_of_body Tryz.func165 (b_slices_Insert_node_Pair_node_Pair_eq t0 t1 t2 k w ▸ h) (Nat.le_of_ble_eq_true rfl)
/-! ### slices.Replace[[]portage/node.Pair,portage/node.Pair] -/
def b_slices_Replace_node_Pair_node_Pairj1 (t9 : Value) (k : K) (w : World) : Prop :=
  k t9 w
def b_slices_Replace_node_Pair_node_Pair (t0 t1 t2 t3 : Value) (k : K) (w : World) : Prop :=
  cut w 2 t0 (some t1) (some t2) none fun t18 w =>
  bin w .eql t1 t2 fun t21 w =>
  Br t21 (
    call Tryz.prog w 165 [t0, t1, t3] fun t25 w =>
    k t25 w
  ) (
    len w t0 fun t28 w =>
    bin w .eql t2 t28 fun t29 w =>
    Br t29 (
      cut w 2 t0 none (some t1) none fun t32 w =>
      app w 151 2 16 #[.int .i64 0, .int .i64 0] t32 t3 fun t34 w =>
      len w t34 fun t36 w =>
      len w t0 fun t38 w =>
      bin w .lss t36 t38 fun t39 w =>
      Br t39 (
        len w t34 fun t42 w =>
        cut w 2 t0 (some t42) none none fun t43 w =>
        clr w #[.int .i64 0, .int .i64 0] t43 fun _ w =>
        b_slices_Replace_node_Pair_node_Pairj1 t34 k w
      ) (
        b_slices_Replace_node_Pair_node_Pairj1 t34 k w
      )
    ) (
      draw w fun w =>
      cut w 2 t0 none (some t1) none fun t47 w =>
      len w t47 fun t48 w =>
      len w t3 fun t50 w =>
      bin w .add t48 t50 fun t51 w =>
      cut w 2 t0 (some t2) none none fun t54 w =>
      len w t54 fun t55 w =>
      bin w .add t51 t55 fun t56 w =>
      cap w t0 fun t59 w =>
      bin w .gtr t56 t59 fun t60 w =>
      Br t60 (
        cut w 2 t0 none (some t1) none fun t63 w =>
        bin w .sub t56 t1 fun t66 w =>
        appZ w 151 2 16 #[.int .i64 0, .int .i64 0] t63 t66 fun t67 w =>
        cut w 2 t67 (some t1) none none fun t70 w =>
        cpy w 2 t70 t3 fun t72 w =>
        draw w fun w =>
        len w t3 fun t76 w =>
        bin w .add t1 t76 fun t77 w =>
        cut w 2 t67 (some t77) none none fun t78 w =>
        cut w 2 t0 (some t2) none none fun t81 w =>
        cpy w 2 t78 t81 fun t82 w =>
        k t67 w
      ) (
        cut w 2 t0 none (some t56) none fun t86 w =>
        len w t3 fun t89 w =>
        bin w .add t1 t89 fun t90 w =>
        bin w .leq t90 t2 fun t92 w =>
        Br t92 (
          cut w 2 t86 (some t1) none none fun t95 w =>
          cpy w 2 t95 t3 fun t97 w =>
          draw w fun w =>
          len w t3 fun t101 w =>
          bin w .add t1 t101 fun t102 w =>
          cut w 2 t86 (some t102) none none fun t103 w =>
          cut w 2 t0 (some t2) none none fun t106 w =>
          cpy w 2 t103 t106 fun t107 w =>
          cut w 2 t0 (some t56) none none fun t110 w =>
          clr w #[.int .i64 0, .int .i64 0] t110 fun _ w =>
          k t86 w
        ) (
          len w t3 fun t115 w =>
          bin w .add t1 t115 fun t116 w =>
          cut w 2 t86 (some t116) none none fun t117 w =>
          does Tryz.prog w (callFunc 202 [t117, t3].toArray) fun t119 w =>
          un w .not t119 fun t120 w =>
          Br t120 (
            draw w fun w =>
            len w t3 fun t124 w =>
            bin w .add t1 t124 fun t125 w =>
            cut w 2 t86 (some t125) none none fun t126 w =>
            cut w 2 t0 (some t2) none none fun t129 w =>
            cpy w 2 t126 t129 fun t130 w =>
            cut w 2 t86 (some t1) none none fun t133 w =>
            cpy w 2 t133 t3 fun t135 w =>
            k t86 w
          ) (
            len w t3 fun t138 w =>
            bin w .sub t2 t1 fun t141 w =>
            bin w .sub t138 t141 fun t142 w =>
            cut w 2 t86 (some t1) (some t2) none fun t146 w =>
            does Tryz.prog w (callFunc 202 [t146, t3].toArray) fun t148 w =>
            un w .not t148 fun t149 w =>
            Br t149 (
              draw w fun w =>
              cut w 2 t86 (some t1) (some t2) none fun t153 w =>
              cut w 2 t3 (some t142) none none fun t156 w =>
              cpy w 2 t153 t156 fun t157 w =>
              draw w fun w =>
              len w t0 fun t160 w =>
              cut w 2 t86 (some t160) none none fun t161 w =>
              cut w 2 t3 none (some t142) none fun t164 w =>
              cpy w 2 t161 t164 fun t165 w =>
              cut w 2 t86 (some t1) none none fun t168 w =>
              call Tryz.prog w 203 [t168, t142] fun t170 w =>
              k t86 w
            ) (
              len w t0 fun t174 w =>
              cut w 2 t86 (some t174) none none fun t175 w =>
              does Tryz.prog w (callFunc 202 [t175, t3].toArray) fun t177 w =>
              un w .not t177 fun t178 w =>
              Br t178 (
                draw w fun w =>
                len w t0 fun t181 w =>
                cut w 2 t86 (some t181) none none fun t182 w =>
                cut w 2 t3 none (some t142) none fun t185 w =>
                cpy w 2 t182 t185 fun t186 w =>
                draw w fun w =>
                cut w 2 t86 (some t1) (some t2) none fun t190 w =>
                cut w 2 t3 (some t142) none none fun t193 w =>
                cpy w 2 t190 t193 fun t194 w =>
                cut w 2 t86 (some t1) none none fun t197 w =>
                call Tryz.prog w 203 [t197, t142] fun t199 w =>
                k t86 w
              ) (
                cut w 2 t0 (some t2) none none fun t204 w =>
                call Tryz.prog w 247 [t3, t204] fun t205 w =>
                cut w 2 t86 (some t1) none none fun t208 w =>
                cpy w 2 t208 t3 fun t210 w =>
                draw w fun w =>
                len w t3 fun t214 w =>
                bin w .add t1 t214 fun t215 w =>
                cut w 2 t86 (some t215) none none fun t216 w =>
                bin w .add t1 t205 fun t220 w =>
                cut w 2 t86 (some t220) none none fun t221 w =>
                cpy w 2 t216 t221 fun t222 w =>
                k t86 w
              )
            )
          )
        )
      )
    )
  )
theorem b_slices_Replace_node_Pair_node_Pair_eq (t0 t1 t2 t3 : Value) (k : K) (w : World) : b_slices_Replace_node_Pair_node_Pair t0 t1 t2 t3 k w = bodyW Tryz.prog [] Tryz.f230 [t0, t1, t2, t3] k w := by kernel_rfl
/-- slices.Replace[[]portage/node.Pair,portage/node.Pair] -/
theorem b_slices_Replace_node_Pair_node_Pair_walk {t0 t1 t2 t3 : Value} {k : K} {w : World} (h : b_slices_Replace_node_Pair_node_Pair t0 t1 t2 t3 k w) : call Tryz.prog w 230 [t0, t1, t2, t3] k :=
  calls_of_body Tryz.func230 (b_slices_Replace_node_Pair_node_Pair_eq t0 t1 t2 t3 k w ▸ h) (Nat.le_of_ble_eq_true rfl)
/-! ### slices.Reverse[[]portage/node.Pair,portage/node.Pair] -/
def b_slices_Reverse_node_Pair_node_Pair (t0 : Value) (k : K) (w : World) : Prop :=
  len w t0 fun t5 w =>
  bin w .sub t5 (.int .i64 1) fun t6 w =>
  loop [(.int .i64 0), t6] w fun J1 s1 next1 w =>
  bin w .lss (at' s1 0) (at' s1 1) fun t9 w =>
  Br t9 (
    drawS w fun S w =>
    idx w 2 t0 (at' s1 1) fun t20 w =>
    idx w 2 t0 (at' s1 0) fun t24 w =>
    held S w (fun w k => ldN w 2 t20 k) fun t21 w =>
    held S w (fun w k => ldN w 2 t24 k) fun t25 w =>
    idx w 2 t0 (at' s1 0) fun t26 w =>
    st w 2 t26 t21 fun _ w =>
    idx w 2 t0 (at' s1 1) fun t27 w =>
    st w 2 t27 t25 fun _ w =>
    bin w .add (at' s1 0) (.int .i64 1) fun t11 w =>
    bin w .sub (at' s1 1) (.int .i64 1) fun t13 w =>
    next1 [t11, t13] w
  ) (
    k (.tuple #[]) w
  )
theorem b_slices_Reverse_node_Pair_node_Pair_eq (t0 : Value) (k : K) (w : World) : b_slices_Reverse_node_Pair_node_Pair t0 k w = bodyW Tryz.prog [(1, [2, 3])] Tryz.f248 [t0] k w := by kernel_rfl
/-- slices.Reverse[[]portage/node.Pair,portage/node.Pair] -/
theorem b_slices_Reverse_node_Pair_node_Pair_walk {t0 : Value} {k : K} {w : World} (h : b_slices_Reverse_node_Pair_node_Pair t0 k w) : call Tryz.prog w 248 [t0] k :=
  calls_of_body Tryz.func248 (b_slices_Reverse_node_Pair_node_Pair_eq t0 k w ▸ h) (Nat.le_of_ble_eq_true rfl)
/-! ### slices.Sorted[int] -/
def b_slices_Sorted_int (t0 : Value) (k : K) (w : World) : Prop :=
  call Tryz.prog w 115 [t0] fun t5 w =>
  call Tryz.prog w 116 [t5] fun t7 w =>
  k t5 w
theorem b_slices_Sorted_int_eq (t0 : Value) (k : K) (w : World) : b_slices_Sorted_int t0 k w = bodyW Tryz.prog [] Tryz.f63 [t0] k w := by kernel_rfl
/-- slices.Sorted[int] -/
theorem b_slices_Sorted_int_walk {t0 : Value} {k : K} {w : World} (h : b_slices_Sorted_int t0 k w) : call Tryz.prog w 63 [t0] k :=
  calls_of_body Tryz.func63 (b_slices_Sorted_int_eq t0 k w ▸ h) (Nat.le_of_ble_eq_true rfl)
/-! ### slices.rotateLeft[portage/node.Pair] -/
def b_slices_rotateLeft_node_Pair (t0 t1 : Value) (k : K) (w : World) : Prop :=
  cut w 2 t0 none (some t1) none fun t6 w =>
  call Tryz.prog w 248 [t6] fun t7 w =>
  cut w 2 t0 (some t1) none none fun t10 w =>
  call Tryz.prog w 248 [t10] fun t11 w =>
  call Tryz.prog w 248 [t0] fun t13 w =>
  k (.tuple #[]) w
theorem b_slices_rotateLeft_node_Pair_eq (t0 t1 : Value) (k : K) (w : World) : b_slices_rotateLeft_node_Pair t0 t1 k w = bodyW Tryz.prog [] Tryz.f231 [t0, t1] k w := by kernel_rfl
/-- slices.rotateLeft[portage/node.Pair] -/
theorem b_slices_rotateLeft_node_Pair_walk {t0 t1 : Value} {k : K} {w : World} (h : b_slices_rotateLeft_node_Pair t0 t1 k w) : call Tryz.prog w 231 [t0, t1] k :=
  calls_of_body Tryz.func231 (b_slices_rotateLeft_node_Pair_eq t0 t1 k w ▸ h) (Nat.le_of_ble_eq_true rfl)
/-! ### slices.rotateRight[portage/node.Pair] -/
def b_slices_rotateRight_node_Pair (t0 t1 : Value) (k : K) (w : World) : Prop :=
  len w t0 fun t6 w =>
  bin w .sub t6 t1 fun t8 w =>
  call Tryz.prog w 231 [t0, t8] fun t9 w =>
  k (.tuple #[]) w
theorem b_slices_rotateRight_node_Pair_eq (t0 t1 : Value) (k : K) (w : World) : b_slices_rotateRight_node_Pair t0 t1 k w = bodyW Tryz.prog [] Tryz.f203 [t0, t1] k w := by kernel_rfl
/-- slices.rotateRight[portage/node.Pair] -/
theorem b_slices_rotateRight_node_Pair_walk {t0 t1 : Value} {k : K} {w : World} (h : b_slices_rotateRight_node_Pair t0 t1 k w) : call Tryz.prog w 203 [t0, t1] k :=
  calls_of_body Tryz.func203 (b_slices_rotateRight_node_Pair_eq t0 t1 k w ▸ h) (Nat.le_of_ble_eq_true rfl)
/-! ### slices.Clone[[]int,int] -/
def b_slices_Clone_int_int (t0 : Value) (k : K) (w : World) : Prop :=
  eq w false true .slice t0 (.slice none 0 0) fun t4 w =>
  Br t4 (
    k (.slice none 0 0) w
  ) (
    bldS w 3 0 1 [.int .i64 0] [] fun t5 w =>
    app w 3 1 8 #[.int .i64 0] t5 t0 fun t7 w =>
    k t7 w
  )
theorem b_slices_Clone_int_int_eq (t0 : Value) (k : K) (w : World) : b_slices_Clone_int_int t0 k w = bodyW Tryz.prog [] Tryz.f180 [t0] k w := by kernel_rfl
/-- slices.Clone[[]int,int] -/
theorem b_slices_Clone_int_int_walk {t0 : Value} {k : K} {w : World} (h : b_slices_Clone_int_int t0 k w) : call Tryz.prog w 180 [t0] k :=
  calls_of_body Tryz.func180 (b_slices_Clone_int_int_eq t0 k w ▸ h) (Nat.le_of_ble_eq_true rfl)
/-! ### slices.Clone[[]uint64,uint64] -/
def b_slices_Clone_uint64_uint64 (t0 : Value) (k : K) (w : World) : Prop :=
  eq w false true .slice t0 (.slice none 0 0) fun t4 w =>
  Br t4 (
    k (.slice none 0 0) w
  ) (
    bldS w 222 0 1 [.int .u64 0] [] fun t5 w =>
    app w 222 1 8 #[.int .u64 0] t5 t0 fun t7 w =>
    k t7 w
  )
theorem b_slices_Clone_uint64_uint64_eq (t0 : Value) (k : K) (w : World) : b_slices_Clone_uint64_uint64 t0 k w = bodyW Tryz.prog [] Tryz.f232 [t0] k w := by kernel_rfl
/-- slices.Clone[[]uint64,uint64] -/
theorem b_slices_Clone_uint64_uint64_walk {t0 : Value} {k : K} {w : World} (h : b_slices_Clone_uint64_uint64 t0 k w) : call Tryz.prog w 232 [t0] k :=
  calls_of_body Tryz.func232 (b_slices_Clone_uint64_uint64_eq t0 k w ▸ h) (Nat.le_of_ble_eq_true rfl)
/-! ### slices.BinarySearch[[]int,int] -/
def b_slices_BinarySearch_int_int (t0 t1 : Value) (k : K) (w : World) : Prop :=
  len w t0 fun t11 w =>
  loop [(.int .i64 0), t11] w fun J1 s1 next1 w =>
  bin w .lss (at' s1 0) (at' s1 1) fun t15 w =>
  Br t15 (
    bin w .add (at' s1 0) (at' s1 1) fun t18 w =>
    conv w .u64 t18 fun t19 w =>
    bin w .shr t19 (.int .u64 1) fun t20 w =>
    conv w .i64 t20 fun t21 w =>
    idx w 1 t0 t21 fun t24 w =>
    ld w t24 fun t25 w =>
    call Tryz.prog w 206 [t25, t1] fun t27 w =>
    Br t27 (
      bin w .add t21 (.int .i64 1) fun t29 w =>
      next1 [t29, (at' s1 1)] w
    ) (
      next1 [(at' s1 0), t21] w
    )
  ) (
    bin w .lss (at' s1 0) t11 fun t34 w =>
    Br t34 (
      idx w 1 t0 (at' s1 0) fun t38 w =>
      ld w t38 fun t39 w =>
      bin w .eql t39 t1 fun t41 w =>
      Br t41 (
        k (.tuple #[(at' s1 0), (.bool true)]) w
      ) (
        idx w 1 t0 (at' s1 0) fun t45 w =>
        ld w t45 fun t46 w =>
        call Tryz.prog w 207 [t46] fun t47 w =>
        Br t47 (
          call Tryz.prog w 207 [t1] fun t50 w =>
          k (.tuple #[(at' s1 0), t50]) w
        ) (
          k (.tuple #[(at' s1 0), (.bool false)]) w
        )
      )
    ) (
      k (.tuple #[(at' s1 0), (.bool false)]) w
    )
  )
theorem b_slices_BinarySearch_int_int_eq (t0 t1 : Value) (k : K) (w : World) : b_slices_BinarySearch_int_int t0 t1 k w = bodyW Tryz.prog [(3, [7, 8])] Tryz.f173 [t0, t1] k w := by kernel_rfl
/-- slices.BinarySearch[[]int,int] -/
theorem b_slices_BinarySearch_int_int_walk {t0 t1 : Value} {k : K} {w : World} (h : b_slices_BinarySearch_int_int t0 t1 k w) : call Tryz.prog w 173 [t0, t1] k :=
  calls_of_body Tryz.func173 (b_slices_BinarySearch_int_int_eq t0 t1 k w ▸ h) (Nat.le_of_ble_eq_true rfl)
/-! ### cmp.Less[int] -/
def b_cmp_Less_int (t0 t1 : Value) (k : K) (w : World) : Prop :=
  call Tryz.prog w 233 [t0] fun t6 w =>
  Br t6 (
    call Tryz.prog w 233 [t1] fun t9 w =>
    un w .not t9 fun t10 w =>
    Br t10 (
      k (.bool true) w
    ) (
      bin w .lss t0 t1 fun t15 w =>
      k t15 w
    )
  ) (
    bin w .lss t0 t1 fun t15_1 w =>
    k t15_1 w
  )
theorem b_cmp_Less_int_eq (t0 t1 : Value) (k : K) (w : World) : b_cmp_Less_int t0 t1 k w = bodyW Tryz.prog [] Tryz.f206 [t0, t1] k w := by kernel_rfl
/-- cmp.Less[int] -/
theorem b_cmp_Less_int_walk {t0 t1 : Value} {k : K} {w : World} (h : b_cmp_Less_int t0 t1 k w) : call Tryz.prog w 206 [t0, t1] k :=
  calls_of_body Tryz.func206 (b_cmp_Less_int_eq t0 t1 k w ▸ h) (Nat.le_of_ble_eq_true rfl)
/-! ### slices.isNaN[int] -/
def b_slices_isNaN_int (t0 : Value) (k : K) (w : World) : Prop :=
  bin w .neq t0 t0 fun t5 w =>
  k t5 w
theorem b_slices_isNaN_int_eq (t0 : Value) (k : K) (w : World) : b_slices_isNaN_int t0 k w = bodyW Tryz.prog [] Tryz.f207 [t0] k w := by kernel_rfl
/-- slices.isNaN[int] -/
theorem b_slices_isNaN_int_walk {t0 : Value} {k : K} {w : World} (h : b_slices_isNaN_int t0 k w) : call Tryz.prog w 207 [t0] k :=
  calls_of_body Tryz.func207 (b_slices_isNaN_int_eq t0 k w ▸ h) (Nat.le_of_ble_eq_true rfl)
/-! ### cmp.isNaN[int] -/
def b_cmp_isNaN_int (t0 : Value) (k : K) (w : World) : Prop :=
  bin w .neq t0 t0 fun t5 w =>
  k t5 w
theorem b_cmp_isNaN_int_eq (t0 : Value) (k : K) (w : World) : b_cmp_isNaN_int t0 k w = bodyW Tryz.prog [] Tryz.f233 [t0] k w := by kernel_rfl
/-- cmp.isNaN[int] -/
theorem b_cmp_isNaN_int_walk {t0 : Value} {k : K} {w : World} (h : b_cmp_isNaN_int t0 k w) : call Tryz.prog w 233 [t0] k :=
  calls_of_body Tryz.func233 (b_cmp_isNaN_int_eq t0 k w ▸ h) (Nat.le_of_ble_eq_true rfl)
end Go.Proofs.YtemenmmekddjaaaGreatDoor
