/- The bodies of functions, written out by program from the loaded translation; each is held against it by the kernel. No condition. -/
import Derived.Test.YtemenmmekddjaaaGreatDoorProg
import Derived.KernelRfl
import Derived.Test.YtemenmmekddjaaaGreatDoorJ03
set_option linter.all false
set_option linter.unusedVariables false
set_option linter.unusedSimpArgs false
set_option linter.unnecessarySimpa false
set_option linter.unusedSectionVars false
set_option linter.constructorNameAsVariable false
namespace Go.Proofs.YtemenmmekddjaaaGreatDoor
open Go Go.Wx Go.W
set_option maxRecDepth 100000
set_option linter.unusedVariables false
/-! ### portage/space.Addr -/
def b_space_Addr (t0 t1 : Value) (k : K) (w : World) : Prop :=
  bin w .lss t0 (.int .i64 0) fun t6 w =>
  Br t6 (
    k (.int .i64 (-1)) w
  ) (
    bin w .geq t0 (.int .i64 8) fun t9 w =>
    Br t9 (
      k (.int .i64 (-1)) w
    ) (
      bin w .lss t1 (.int .i64 0) fun t13 w =>
      Br t13 (
        k (.int .i64 (-1)) w
      ) (
        bin w .geq t1 (.int .i64 4096) fun t17 w =>
        Br t17 (
          k (.int .i64 (-1)) w
        ) (
          bin w .mul t0 (.int .i64 4096) fun t20 w =>
          bin w .add t20 t1 fun t22 w =>
          k t22 w
        )
      )
    )
  )
theorem b_space_Addr_eq (t0 t1 : Value) (k : K) (w : World) : b_space_Addr t0 t1 k w = bodyW Tryz.prog [] Tryz.f99 [t0, t1] k w := by kernel_rfl
/-- portage/space.Addr -/
theorem b_space_Addr_walk {t0 t1 : Value} {k : K} {w : World} (h : b_space_Addr t0 t1 k w) : call Tryz.prog w 99 [t0, t1] k :=
  calls_of_body Tryz.func99 (b_space_Addr_eq t0 t1 k w ▸ h) (Nat.le_of_ble_eq_true rfl)
/-! ### portage/space.At -/
def b_space_At (t0 : Value) (k : K) (w : World) : Prop :=
  bin w .lss t0 (.int .i64 0) fun t5 w =>
  Br t5 (
    k (.tuple #[(.int .i64 (-1)), (.int .i64 (-1))]) w
  ) (
    bin w .geq t0 (.int .i64 32768) fun t8 w =>
    Br t8 (
      k (.tuple #[(.int .i64 (-1)), (.int .i64 (-1))]) w
    ) (
      bin w .quo t0 (.int .i64 4096) fun t11 w =>
      bin w .rem t0 (.int .i64 4096) fun t13 w =>
      k (.tuple #[t11, t13]) w
    )
  )
theorem b_space_At_eq (t0 : Value) (k : K) (w : World) : b_space_At t0 k w = bodyW Tryz.prog [] Tryz.f30 [t0] k w := by kernel_rfl
/-- portage/space.At -/
theorem b_space_At_walk {t0 : Value} {k : K} {w : World} (h : b_space_At t0 k w) : call Tryz.prog w 30 [t0] k :=
  calls_of_body Tryz.func30 (b_space_At_eq t0 k w ▸ h) (Nat.le_of_ble_eq_true rfl)
/-! ### portage/space.New -/
def b_space_New (t0 : Value) (k : K) (w : World) : Prop :=
  box w 66 t0 fun t1 w =>
  bld w #[(0, 1), (1, 1)] #[.slice none 0 0, .slice none 0 0] [] fun t6 w =>
  box w 129 t6 fun t7 w =>
  bld w #[(0, 1), (1, 1)] #[.pointer none, .pointer none] [(0, t7)] fun t8 w =>
  box w 126 t8 fun t9 w =>
  ldN w 1 t1 fun t11 w =>
  call Tryz.prog w 27 [t9, t11] fun t12 w =>
  eq w true true .iface t12 .nilIface fun t14 w =>
  Br t14 (
    k (.tuple #[(.pointer none), t12]) w
  ) (
    k (.tuple #[t9, .nilIface]) w
  )
theorem b_space_New_eq (t0 : Value) (k : K) (w : World) : b_space_New t0 k w = bodyW Tryz.prog [] Tryz.f33 [t0] k w := by kernel_rfl
/-- portage/space.New -/
theorem b_space_New_walk {t0 : Value} {k : K} {w : World} (h : b_space_New t0 k w) : call Tryz.prog w 33 [t0] k :=
  calls_of_body Tryz.func33 (b_space_New_eq t0 k w ▸ h) (Nat.le_of_ble_eq_true rfl)
/-! ### (*portage/space.Space).Back -/
def b_space_Space_Back (t0 : Value) (k : K) (w : World) : Prop :=
  nn w t0 fun t4 w =>
  add w 1 t4 fun t5 w =>
  ld w t5 fun t6 w =>
  eq w false true .ptr t6 (.pointer none) fun t7 w =>
  Br t7 (
    k (.iface 149 (.int .i64 100)) w
  ) (
    nn w t0 fun t12 w =>
    add w 1 t12 fun t13 w =>
    ld w t13 fun t14 w =>
    nn w t0 fun t15 w =>
    add w 0 t15 fun t16 w =>
    st w 1 t16 t14 fun _ w =>
    nn w t0 fun t17 w =>
    add w 1 t17 fun t18 w =>
    st w 1 t18 (.pointer none) fun _ w =>
    k .nilIface w
  )
theorem b_space_Space_Back_eq (t0 : Value) (k : K) (w : World) : b_space_Space_Back t0 k w = bodyW Tryz.prog [] Tryz.f56 [t0] k w := by kernel_rfl
/-- (*portage/space.Space).Back -/
theorem b_space_Space_Back_walk {t0 : Value} {k : K} {w : World} (h : b_space_Space_Back t0 k w) : call Tryz.prog w 56 [t0] k :=
  calls_of_body Tryz.func56 (b_space_Space_Back_eq t0 k w ▸ h) (Nat.le_of_ble_eq_true rfl)
/-! ### (*portage/space.Space).Begin -/
def b_space_Space_Begin (t0 : Value) (k : K) (w : World) : Prop :=
  nn w t0 fun t4 w =>
  add w 1 t4 fun t5 w =>
  ld w t5 fun t6 w =>
  eq w true true .ptr t6 (.pointer none) fun t7 w =>
  Br t7 (
    k (.iface 149 (.int .i64 100)) w
  ) (
    nn w t0 fun t11 w =>
    add w 0 t11 fun t12 w =>
    ld w t12 fun t13 w =>
    call Tryz.prog w 110 [t13] fun t14 w =>
    nn w t0 fun t15 w =>
    add w 1 t15 fun t16 w =>
    st w 1 t16 t14 fun _ w =>
    k .nilIface w
  )
theorem b_space_Space_Begin_eq (t0 : Value) (k : K) (w : World) : b_space_Space_Begin t0 k w = bodyW Tryz.prog [] Tryz.f49 [t0] k w := by kernel_rfl
/-- (*portage/space.Space).Begin -/
theorem b_space_Space_Begin_walk {t0 : Value} {k : K} {w : World} (h : b_space_Space_Begin t0 k w) : call Tryz.prog w 49 [t0] k :=
  calls_of_body Tryz.func49 (b_space_Space_Begin_eq t0 k w ▸ h) (Nat.le_of_ble_eq_true rfl)
/-! ### (*portage/space.Space).Commit -/
def b_space_Space_Commitj1 (t4 t5 t22_1 t23_1 t24 : Value) (next1 : List Value → World → Prop) (next2 : List Value → World → Prop) (k : K) (w : World) : Prop :=
  nn w t4 fun t39 w =>
  add w 2 t39 fun t40 w =>
  ld w t40 fun t41 w =>
  bin w .add t5 (.int .i64 1) fun t43 w =>
  call Tryz.prog w 98 [t41, t43] fun t44 w =>
  tup w 0 t44 fun t45 w =>
  tup w 1 t44 fun t46 w =>
  next2 [t45, t46] w
def b_space_Space_Commit (t0 : Value) (k : K) (w : World) : Prop :=
  nn w t0 fun t8 w =>
  add w 1 t8 fun t9 w =>
  ld w t9 fun t10 w =>
  eq w false true .ptr t10 (.pointer none) fun t11 w =>
  Br t11 (
    k (.iface 149 (.int .i64 100)) w
  ) (
    nn w t0 fun t14 w =>
    add w 1 t14 fun t15 w =>
    st w 1 t15 (.pointer none) fun _ w =>
    nn w t0 fun t17 w =>
    add w 0 t17 fun t18 w =>
    ld w t18 fun t19 w =>
    nn w t19 fun t20 w =>
    add w 1 t20 fun t21 w =>
    ld w t21 fun t22 w =>
    len w t22 fun t23 w =>
    loop [(.int .i64 0)] w fun J1 s1 next1 w =>
    bin w .lss (at' s1 0) t23 fun t25 w =>
    Br t25 (
      idx w 1 t22 (at' s1 0) fun t26 w =>
      ld w t26 fun t27 w =>
      nn w t27 fun t30 w =>
      add w 2 t30 fun t31 w =>
      ld w t31 fun t32 w =>
      call Tryz.prog w 98 [t32, (.int .i64 0)] fun t33 w =>
      tup w 0 t33 fun t34 w =>
      tup w 1 t33 fun t35 w =>
      loop [t34, t35] w fun J2 s2 next2 w =>
      Br (at' s2 1) (
        nn w t27 fun t48 w =>
        add w 1 t48 fun t49 w =>
        ld w t49 fun t50 w =>
        call Tryz.prog w 112 [t50, (at' s2 0)] fun t52 w =>
        Br t52 (
          nn w t27 fun t54 w =>
          add w 1 t54 fun t55 w =>
          ld w t55 fun t56 w =>
          bldS w 3 1 1 [.int .i64 0] [(0, (at' s2 0))] fun t58 w =>
          call Tryz.prog w 113 [t56, t58] fun t59 w =>
          nn w t27 fun t61 w =>
          add w 2 t61 fun t62 w =>
          ld w t62 fun t63 w =>
          bldS w 3 1 1 [.int .i64 0] [(0, (at' s2 0))] fun t65 w =>
          call Tryz.prog w 113 [t63, t65] fun t66 w =>
          b_space_Space_Commitj1 t27 (at' s2 0) t22 t23 (at' s1 0) next1 next2 k w
        ) (
          b_space_Space_Commitj1 t27 (at' s2 0) t22 t23 (at' s1 0) next1 next2 k w
        )
      ) (
        bin w .add (at' s1 0) (.int .i64 1) fun t67 w =>
        next1 [t67] w
      )
    ) (
      k .nilIface w
    )
  )
theorem b_space_Space_Commit_eq (t0 : Value) (k : K) (w : World) : b_space_Space_Commit t0 k w = bodyW Tryz.prog [(1005, [24]), (8, [5, 6])] Tryz.f52 [t0] k w := by kernel_rfl
/-- (*portage/space.Space).Commit -/
theorem b_space_Space_Commit_walk {t0 : Value} {k : K} {w : World} (h : b_space_Space_Commit t0 k w) : call Tryz.prog w 52 [t0] k :=
  calls_of_body Tryz.func52 (b_space_Space_Commit_eq t0 k w ▸ h) (Nat.le_of_ble_eq_true rfl)
/-! ### (*portage/space.Space).Free -/
def b_space_Space_Free (t0 : Value) (k : K) (w : World) : Prop :=
  nn w t0 fun t7 w =>
  add w 0 t7 fun t8 w =>
  ld w t8 fun t9 w =>
  nn w t9 fun t10 w =>
  add w 0 t10 fun t11 w =>
  ldN w 1 t11 fun t12 w =>
  call Tryz.prog w 65 [t12] fun t13 w =>
  len w t13 fun t14 w =>
  loop [(.int .i64 0), (.int .i64 0)] w fun J1 s1 next1 w =>
  bin w .lss (at' s1 1) t14 fun t16 w =>
  Br t16 (
    idx w 1 t13 (at' s1 1) fun t17 w =>
    ld w t17 fun t18 w =>
    call Tryz.prog w 66 [t0, t18] fun t22 w =>
    bin w .add (at' s1 0) t22 fun t23 w =>
    bin w .add (at' s1 1) (.int .i64 1) fun t24 w =>
    next1 [t23, t24] w
  ) (
    k (at' s1 0) w
  )
theorem b_space_Space_Free_eq (t0 : Value) (k : K) (w : World) : b_space_Space_Free t0 k w = bodyW Tryz.prog [(3, [3, 15])] Tryz.f13 [t0] k w := by kernel_rfl
/-- (*portage/space.Space).Free -/
theorem b_space_Space_Free_walk {t0 : Value} {k : K} {w : World} (h : b_space_Space_Free t0 k w) : call Tryz.prog w 13 [t0] k :=
  calls_of_body Tryz.func13 (b_space_Space_Free_eq t0 k w ▸ h) (Nat.le_of_ble_eq_true rfl)
/-! ### (*portage/space.Space).Give -/
def b_space_Space_Give (t0 t1 : Value) (k : K) (w : World) : Prop :=
  call Tryz.prog w 186 [t0, t1] fun t10 w =>
  tup w 0 t10 fun t11 w =>
  tup w 1 t10 fun t12 w =>
  eq w false true .ptr t11 (.pointer none) fun t15 w =>
  Br t15 (
    k (.iface 149 (.int .i64 20)) w
  ) (
    nn w t11 fun t19 w =>
    add w 0 t19 fun t20 w =>
    ld w t20 fun t21 w =>
    call Tryz.prog w 112 [t21, t12] fun t23 w =>
    un w .not t23 fun t24 w =>
    Br t24 (
      k (.iface 149 (.int .i64 51)) w
    ) (
      nn w t11 fun t27 w =>
      add w 0 t27 fun t28 w =>
      ld w t28 fun t29 w =>
      bldS w 3 1 1 [.int .i64 0] [(0, t12)] fun t31 w =>
      call Tryz.prog w 113 [t29, t31] fun t32 w =>
      nn w t11 fun t34 w =>
      add w 1 t34 fun t35 w =>
      ld w t35 fun t36 w =>
      call Tryz.prog w 112 [t36, t12] fun t38 w =>
      Br t38 (
        call Tryz.prog w 198 [t0, t1] fun t42 w =>
        un w .not t42 fun t43 w =>
        Br t43 (
          nn w t11 fun t46 w =>
          add w 1 t46 fun t47 w =>
          ld w t47 fun t48 w =>
          bldS w 3 1 1 [.int .i64 0] [(0, t12)] fun t50 w =>
          call Tryz.prog w 113 [t48, t50] fun t51 w =>
          k t51 w
        ) (
          nn w t11 fun t53 w =>
          add w 2 t53 fun t54 w =>
          ld w t54 fun t55 w =>
          bldS w 3 1 1 [.int .i64 0] [(0, t12)] fun t57 w =>
          call Tryz.prog w 196 [t55, t57] fun t58 w =>
          k t58 w
        )
      ) (
        nn w t11 fun t53_1 w =>
        add w 2 t53_1 fun t54_1 w =>
        ld w t54_1 fun t55_1 w =>
        bldS w 3 1 1 [.int .i64 0] [(0, t12)] fun t57_1 w =>
        call Tryz.prog w 196 [t55_1, t57_1] fun t58_1 w =>
        k t58_1 w
      )
    )
  )
theorem b_space_Space_Give_eq (t0 t1 : Value) (k : K) (w : World) : b_space_Space_Give t0 t1 k w = bodyW Tryz.prog [] Tryz.f160 [t0, t1] k w := by kernel_rfl
/-- (*portage/space.Space).Give -/
theorem b_space_Space_Give_walk {t0 t1 : Value} {k : K} {w : World} (h : b_space_Space_Give t0 t1 k w) : call Tryz.prog w 160 [t0, t1] k :=
  calls_of_body Tryz.func160 (b_space_Space_Give_eq t0 t1 k w ▸ h) (Nat.le_of_ble_eq_true rfl)
/-! ### (*portage/space.Space).Mark -/
def b_space_Space_Mark (t0 t1 : Value) (k : K) (w : World) : Prop :=
  call Tryz.prog w 186 [t0, t1] fun t10 w =>
  tup w 0 t10 fun t11 w =>
  tup w 1 t10 fun t12 w =>
  eq w false true .ptr t11 (.pointer none) fun t15 w =>
  Br t15 (
    k (.iface 149 (.int .i64 20)) w
  ) (
    nn w t11 fun t19 w =>
    add w 0 t19 fun t20 w =>
    ld w t20 fun t21 w =>
    call Tryz.prog w 112 [t21, t12] fun t23 w =>
    Br t23 (
      k (.iface 149 (.int .i64 51)) w
    ) (
      nn w t11 fun t26 w =>
      add w 2 t26 fun t27 w =>
      ld w t27 fun t28 w =>
      call Tryz.prog w 112 [t28, t12] fun t30 w =>
      Br t30 (
        k (.iface 149 (.int .i64 51)) w
      ) (
        nn w t11 fun t34 w =>
        add w 0 t34 fun t35 w =>
        ld w t35 fun t36 w =>
        bldS w 3 1 1 [.int .i64 0] [(0, t12)] fun t38 w =>
        call Tryz.prog w 196 [t36, t38] fun t39 w =>
        k t39 w
      )
    )
  )
theorem b_space_Space_Mark_eq (t0 t1 : Value) (k : K) (w : World) : b_space_Space_Mark t0 t1 k w = bodyW Tryz.prog [] Tryz.f185 [t0, t1] k w := by kernel_rfl
/-- (*portage/space.Space).Mark -/
theorem b_space_Space_Mark_walk {t0 t1 : Value} {k : K} {w : World} (h : b_space_Space_Mark t0 t1 k w) : call Tryz.prog w 185 [t0, t1] k :=
  calls_of_body Tryz.func185 (b_space_Space_Mark_eq t0 t1 k w ▸ h) (Nat.le_of_ble_eq_true rfl)
/-! ### (*portage/space.Space).On -/
def b_space_Space_On (t0 t1 : Value) (k : K) (w : World) : Prop :=
  bin w .lss t1 (.int .i64 0) fun t10 w =>
  Br t10 (
    k (.slice none 0 0) w
  ) (
    nn w t0 fun t14 w =>
    add w 0 t14 fun t15 w =>
    ld w t15 fun t16 w =>
    nn w t16 fun t17 w =>
    add w 1 t17 fun t18 w =>
    ld w t18 fun t19 w =>
    len w t19 fun t20 w =>
    bin w .geq t1 t20 fun t21 w =>
    Br t21 (
      k (.slice none 0 0) w
    ) (
      nn w t0 fun t24 w =>
      add w 0 t24 fun t25 w =>
      ld w t25 fun t26 w =>
      nn w t26 fun t27 w =>
      add w 1 t27 fun t28 w =>
      ld w t28 fun t29 w =>
      idx w 1 t29 t1 fun t31 w =>
      ld w t31 fun t32 w =>
      nn w t32 fun t35 w =>
      add w 0 t35 fun t36 w =>
      ld w t36 fun t37 w =>
      call Tryz.prog w 98 [t37, (.int .i64 0)] fun t38 w =>
      tup w 0 t38 fun t39 w =>
      tup w 1 t38 fun t40 w =>
      loop [(.slice none 0 0), t39, t40] w fun J1 s1 next1 w =>
      Br (at' s1 2) (
        call Tryz.prog w 99 [t1, (at' s1 1)] fun t55 w =>
        bldS w 3 1 1 [.int .i64 0] [(0, t55)] fun t56 w =>
        app w 3 1 8 #[.int .i64 0] (at' s1 0) t56 fun t57 w =>
        nn w t32 fun t44 w =>
        add w 0 t44 fun t45 w =>
        ld w t45 fun t46 w =>
        bin w .add (at' s1 1) (.int .i64 1) fun t48 w =>
        call Tryz.prog w 98 [t46, t48] fun t49 w =>
        tup w 0 t49 fun t50 w =>
        tup w 1 t49 fun t51 w =>
        next1 [t57, t50, t51] w
      ) (
        k (at' s1 0) w
      )
    )
  )
theorem b_space_Space_On_eq (t0 t1 : Value) (k : K) (w : World) : b_space_Space_On t0 t1 k w = bodyW Tryz.prog [(6, [5, 7, 8])] Tryz.f31 [t0, t1] k w := by kernel_rfl
/-- (*portage/space.Space).On -/
theorem b_space_Space_On_walk {t0 t1 : Value} {k : K} {w : World} (h : b_space_Space_On t0 t1 k w) : call Tryz.prog w 31 [t0, t1] k :=
  calls_of_body Tryz.func31 (b_space_Space_On_eq t0 t1 k w ▸ h) (Nat.le_of_ble_eq_true rfl)
/-! ### (*portage/space.Space).Roster -/
def b_space_Space_Roster (t0 : Value) (k : K) (w : World) : Prop :=
  new w 66 #[.slice none 0 0] fun t2 w =>
  nn w t0 fun t4 w =>
  add w 0 t4 fun t5 w =>
  ld w t5 fun t6 w =>
  nn w t6 fun t7 w =>
  add w 0 t7 fun t8 w =>
  ldN w 1 t8 fun t9 w =>
  call Tryz.prog w 86 [t9] fun t10 w =>
  st w 1 t2 t10 fun _ w =>
  ldN w 1 t2 fun t100002 w =>
  k t100002 w
theorem b_space_Space_Roster_eq (t0 : Value) (k : K) (w : World) : b_space_Space_Roster t0 k w = bodyW Tryz.prog [] Tryz.f25 [t0] k w := by kernel_rfl
/-- (*portage/space.Space).Roster -/
theorem b_space_Space_Roster_walk {t0 : Value} {k : K} {w : World} (h : b_space_Space_Roster t0 k w) : call Tryz.prog w 25 [t0] k :=
  calls_of_body Tryz.func25 (b_space_Space_Roster_eq t0 k w ▸ h) (Nat.le_of_ble_eq_true rfl)
/-! ### (*portage/space.Space).Take -/
def b_space_Space_Take (t0 : Value) (k : K) (w : World) : Prop :=
  nn w t0 fun t13 w =>
  add w 0 t13 fun t14 w =>
  ld w t14 fun t15 w =>
  nn w t15 fun t16 w =>
  add w 0 t16 fun t17 w =>
  ldN w 1 t17 fun t18 w =>
  call Tryz.prog w 65 [t18] fun t19 w =>
  len w t19 fun t20 w =>
  loop [(.int .i64 0), (.int .i64 0), (.int .i64 0)] w fun J1 s1 next1 w =>
  bin w .lss (at' s1 2) t20 fun t22 w =>
  Br t22 (
    idx w 1 t19 (at' s1 2) fun t23 w =>
    ld w t23 fun t24 w =>
    call Tryz.prog w 66 [t0, t24] fun t27 w =>
    bin w .gtr t27 (at' s1 1) fun t30 w =>
    Br t30 (
      bin w .add (at' s1 2) (.int .i64 1) fun t33 w =>
      next1 [t24, t27, t33] w
    ) (
      bin w .add (at' s1 2) (.int .i64 1) fun t33_1 w =>
      next1 [(at' s1 0), (at' s1 1), t33_1] w
    )
  ) (
    bin w .eql (at' s1 1) (.int .i64 0) fun t35 w =>
    Br t35 (
      k (.tuple #[(.int .i64 0), (.iface 149 (.int .i64 50))]) w
    ) (
      nn w t0 fun t38 w =>
      add w 0 t38 fun t39 w =>
      ld w t39 fun t40 w =>
      nn w t40 fun t41 w =>
      add w 1 t41 fun t42 w =>
      ld w t42 fun t43 w =>
      idx w 1 t43 (at' s1 0) fun t45 w =>
      ld w t45 fun t46 w =>
      nn w t46 fun t49 w =>
      add w 0 t49 fun t50 w =>
      ld w t50 fun t51 w =>
      call Tryz.prog w 195 [t51, (.int .i64 2)] fun t52 w =>
      tup w 0 t52 fun t53 w =>
      tup w 1 t52 fun t54 w =>
      loop [t53] w fun J2 s2 next2 w =>
      nn w t46 fun t56 w =>
      add w 2 t56 fun t57 w =>
      ld w t57 fun t58 w =>
      call Tryz.prog w 112 [t58, (at' s2 0)] fun t60 w =>
      Br t60 (
        nn w t46 fun t63 w =>
        add w 0 t63 fun t64 w =>
        ld w t64 fun t65 w =>
        bin w .add (at' s2 0) (.int .i64 1) fun t67 w =>
        call Tryz.prog w 195 [t65, t67] fun t68 w =>
        tup w 0 t68 fun t69 w =>
        tup w 1 t68 fun t70 w =>
        next2 [t69] w
      ) (
        nn w t46 fun t72 w =>
        add w 0 t72 fun t73 w =>
        ld w t73 fun t74 w =>
        bldS w 3 1 1 [.int .i64 0] [(0, (at' s2 0))] fun t76 w =>
        call Tryz.prog w 196 [t74, t76] fun t77 w =>
        nn w t46 fun t79 w =>
        add w 1 t79 fun t80 w =>
        ld w t80 fun t81 w =>
        bldS w 3 1 1 [.int .i64 0] [(0, (at' s2 0))] fun t83 w =>
        call Tryz.prog w 196 [t81, t83] fun t84 w =>
        call Tryz.prog w 99 [(at' s1 0), (at' s2 0)] fun t87 w =>
        k (.tuple #[t87, .nilIface]) w
      )
    )
  )
theorem b_space_Space_Take_eq (t0 : Value) (k : K) (w : World) : b_space_Space_Take t0 k w = bodyW Tryz.prog [(3, [4, 5, 21]), (13, [10])] Tryz.f158 [t0] k w := by kernel_rfl
/-- (*portage/space.Space).Take -/
theorem b_space_Space_Take_walk {t0 : Value} {k : K} {w : World} (h : b_space_Space_Take t0 k w) : call Tryz.prog w 158 [t0] k :=
  calls_of_body Tryz.func158 (b_space_Space_Take_eq t0 k w ▸ h) (Nat.le_of_ble_eq_true rfl)
/-! ### (*portage/space.Space).Turn -/
def b_space_Space_Turnj1 (t0_1 t5 t6_1 t27_1 t28_1 t29 : Value) (next1 : List Value → World → Prop) (k : K) (w : World) : Prop :=
  drawS w fun S w =>
  nn w t0_1 fun t61 w =>
  add w 0 t61 fun t62 w =>
  add w 1 t6_1 fun t70 w =>
  held S w (fun w k => ld w t62 k) fun t63 w =>
  nn w t63 fun t64 w =>
  add w 1 t64 fun t65 w =>
  held S w (fun w k => ld w t65 k) fun t66 w =>
  idx w 1 t66 t5 fun t68 w =>
  held S w (fun w k => ld w t68 k) fun t69 w =>
  held S w (fun w k => ld w t70 k) fun t71 w =>
  call Tryz.prog w 92 [t69, t71] fun t72 w =>
  S w ∧
  bin w .add t29 (.int .i64 1) fun t73 w =>
  next1 [t73] w
def b_space_Space_Turn (t0 t1 : Value) (k : K) (w : World) : Prop :=
  box w 66 t1 fun t3 w =>
  ldN w 1 t3 fun t8 w =>
  call Tryz.prog w 89 [t8] fun t9 w =>
  eq w true true .iface t9 .nilIface fun t10 w =>
  Br t10 (
    k (.iface 149 (.int .i64 14)) w
  ) (
    ldN w 1 t3 fun t14 w =>
    call Tryz.prog w 90 [t0, t14] fun t15 w =>
    un w .not t15 fun t16 w =>
    Br t16 (
      k (.iface 149 (.int .i64 30)) w
    ) (
      drawS w fun S w =>
      nn w t0 fun t19 w =>
      add w 0 t19 fun t20 w =>
      held S w (fun w k => ld w t20 k) fun t21 w =>
      held S w (fun w k => ldN w 1 t3 k) fun t22 w =>
      call Tryz.prog w 86 [t22] fun t23 w =>
      S w ∧
      nn w t21 fun t24 w =>
      add w 0 t24 fun t25 w =>
      st w 1 t25 t23 fun _ w =>
      add w 0 t3 fun t26 w =>
      ld w t26 fun t27 w =>
      len w t27 fun t28 w =>
      loop [(.int .i64 0)] w fun J1 s1 next1 w =>
      bin w .lss (at' s1 0) t28 fun t30 w =>
      Br t30 (
        idx w 2 t27 (at' s1 0) fun t32 w =>
        ldN w 2 t32 fun t33 w =>
        new w 95 #[.int .i64 0, .int .i64 0] fun t6 w =>
        st w 2 t6 t33 fun _ w =>
        nn w t0 fun t36 w =>
        add w 0 t36 fun t37 w =>
        ld w t37 fun t38 w =>
        nn w t38 fun t39 w =>
        add w 1 t39 fun t40 w =>
        ld w t40 fun t41 w =>
        len w t41 fun t42 w =>
        bin w .eql (at' s1 0) t42 fun t43 w =>
        Br t43 (
          drawS w fun S w =>
          nn w t0 fun t45 w =>
          add w 0 t45 fun t46 w =>
          nn w t0 fun t49 w =>
          add w 0 t49 fun t50 w =>
          held S w (fun w k => ld w t46 k) fun t47 w =>
          held S w (fun w k => ld w t50 k) fun t51 w =>
          nn w t51 fun t52 w =>
          add w 1 t52 fun t53 w =>
          held S w (fun w k => ld w t53 k) fun t54 w =>
          call Tryz.prog w 91 [(.int .i64 0)] fun t55 w =>
          S w ∧
          bldS w 161 1 1 [.pointer none] [(0, t55)] fun t56 w =>
          S w ∧
          app w 161 1 8 #[.pointer none] t54 t56 fun t57 w =>
          S w ∧
          nn w t47 fun t58 w =>
          add w 1 t58 fun t59 w =>
          st w 1 t59 t57 fun _ w =>
          b_space_Space_Turnj1 t0 (at' s1 0) t6 t27 t28 (at' s1 0) next1 k w
        ) (
          b_space_Space_Turnj1 t0 (at' s1 0) t6 t27 t28 (at' s1 0) next1 k w
        )
      ) (
        k .nilIface w
      )
    )
  )
theorem b_space_Space_Turn_eq (t0 t1 : Value) (k : K) (w : World) : b_space_Space_Turn t0 t1 k w = bodyW Tryz.prog [(7, [29])] Tryz.f27 [t0, t1] k w := by kernel_rfl
/-- (*portage/space.Space).Turn -/
theorem b_space_Space_Turn_walk {t0 t1 : Value} {k : K} {w : World} (h : b_space_Space_Turn t0 t1 k w) : call Tryz.prog w 27 [t0, t1] k :=
  calls_of_body Tryz.func27 (b_space_Space_Turn_eq t0 t1 k w ▸ h) (Nat.le_of_ble_eq_true rfl)
/-! ### (*portage/space.Space).Unmark -/
def b_space_Space_Unmark (t0 t1 : Value) (k : K) (w : World) : Prop :=
  call Tryz.prog w 186 [t0, t1] fun t10 w =>
  tup w 0 t10 fun t11 w =>
  tup w 1 t10 fun t12 w =>
  eq w false true .ptr t11 (.pointer none) fun t15 w =>
  Br t15 (
    k (.iface 149 (.int .i64 20)) w
  ) (
    nn w t11 fun t19 w =>
    add w 0 t19 fun t20 w =>
    ld w t20 fun t21 w =>
    call Tryz.prog w 112 [t21, t12] fun t23 w =>
    un w .not t23 fun t24 w =>
    Br t24 (
      k (.iface 149 (.int .i64 51)) w
    ) (
      nn w t11 fun t27 w =>
      add w 1 t27 fun t28 w =>
      ld w t28 fun t29 w =>
      call Tryz.prog w 112 [t29, t12] fun t31 w =>
      Br t31 (
        k (.iface 149 (.int .i64 51)) w
      ) (
        nn w t11 fun t35 w =>
        add w 0 t35 fun t36 w =>
        ld w t36 fun t37 w =>
        bldS w 3 1 1 [.int .i64 0] [(0, t12)] fun t39 w =>
        call Tryz.prog w 113 [t37, t39] fun t40 w =>
        k t40 w
      )
    )
  )
theorem b_space_Space_Unmark_eq (t0 t1 : Value) (k : K) (w : World) : b_space_Space_Unmark t0 t1 k w = bodyW Tryz.prog [] Tryz.f150 [t0, t1] k w := by kernel_rfl
/-- (*portage/space.Space).Unmark -/
theorem b_space_Space_Unmark_walk {t0 t1 : Value} {k : K} {w : World} (h : b_space_Space_Unmark t0 t1 k w) : call Tryz.prog w 150 [t0, t1] k :=
  calls_of_body Tryz.func150 (b_space_Space_Unmark_eq t0 t1 k w ▸ h) (Nat.le_of_ble_eq_true rfl)
/-! ### (*portage/space.Space).elder -/
def b_space_Space_elder (t0 t1 : Value) (k : K) (w : World) : Prop :=
  call Tryz.prog w 30 [t1] fun t10 w =>
  tup w 0 t10 fun t11 w =>
  tup w 1 t10 fun t12 w =>
  nn w t0 fun t14 w =>
  add w 1 t14 fun t15 w =>
  ld w t15 fun t16 w =>
  eq w false true .ptr t16 (.pointer none) fun t17 w =>
  Br t17 (
    k (.bool false) w
  ) (
    nn w t0 fun t21 w =>
    add w 1 t21 fun t22 w =>
    ld w t22 fun t23 w =>
    nn w t23 fun t24 w =>
    add w 1 t24 fun t25 w =>
    ld w t25 fun t26 w =>
    len w t26 fun t27 w =>
    bin w .geq t11 t27 fun t28 w =>
    Br t28 (
      k (.bool false) w
    ) (
      nn w t0 fun t31 w =>
      add w 1 t31 fun t32 w =>
      ld w t32 fun t33 w =>
      nn w t33 fun t34 w =>
      add w 1 t34 fun t35 w =>
      ld w t35 fun t36 w =>
      idx w 1 t36 t11 fun t38 w =>
      ld w t38 fun t39 w =>
      nn w t39 fun t41 w =>
      add w 0 t41 fun t42 w =>
      ld w t42 fun t43 w =>
      call Tryz.prog w 112 [t43, t12] fun t45 w =>
      Br t45 (
        nn w t39 fun t48 w =>
        add w 1 t48 fun t49 w =>
        ld w t49 fun t50 w =>
        call Tryz.prog w 112 [t50, t12] fun t52 w =>
        k t52 w
      ) (
        k (.bool false) w
      )
    )
  )
theorem b_space_Space_elder_eq (t0 t1 : Value) (k : K) (w : World) : b_space_Space_elder t0 t1 k w = bodyW Tryz.prog [] Tryz.f198 [t0, t1] k w := by kernel_rfl
/-- (*portage/space.Space).elder -/
theorem b_space_Space_elder_walk {t0 t1 : Value} {k : K} {w : World} (h : b_space_Space_elder t0 t1 k w) : call Tryz.prog w 198 [t0, t1] k :=
  calls_of_body Tryz.func198 (b_space_Space_elder_eq t0 t1 k w ▸ h) (Nat.le_of_ble_eq_true rfl)
/-! ### (*portage/space.Space).find -/
def b_space_Space_find (t0 t1 : Value) (k : K) (w : World) : Prop :=
  call Tryz.prog w 30 [t1] fun t10 w =>
  tup w 0 t10 fun t11 w =>
  tup w 1 t10 fun t12 w =>
  bin w .lss t11 (.int .i64 0) fun t14 w =>
  Br t14 (
    k (.tuple #[(.pointer none), (.int .i64 0)]) w
  ) (
    nn w t0 fun t18 w =>
    add w 0 t18 fun t19 w =>
    ld w t19 fun t20 w =>
    nn w t20 fun t21 w =>
    add w 0 t21 fun t22 w =>
    add w 0 t22 fun t23 w =>
    ld w t23 fun t24 w =>
    len w t24 fun t25 w =>
    bin w .geq t11 t25 fun t26 w =>
    Br t26 (
      k (.tuple #[(.pointer none), (.int .i64 0)]) w
    ) (
      nn w t0 fun t30 w =>
      add w 0 t30 fun t31 w =>
      ld w t31 fun t32 w =>
      nn w t32 fun t33 w =>
      add w 0 t33 fun t34 w =>
      add w 0 t34 fun t35 w =>
      ld w t35 fun t36 w =>
      idx w 2 t36 t11 fun t38 w =>
      ldN w 2 t38 fun t39 w =>
      call Tryz.prog w 140 [t39] fun t40 w =>
      un w .not t40 fun t41 w =>
      Br t41 (
        k (.tuple #[(.pointer none), (.int .i64 0)]) w
      ) (
        bin w .lss t12 (.int .i64 2) fun t45 w =>
        Br t45 (
          k (.tuple #[(.pointer none), (.int .i64 0)]) w
        ) (
          nn w t0 fun t50 w =>
          add w 0 t50 fun t51 w =>
          ld w t51 fun t52 w =>
          nn w t52 fun t53 w =>
          add w 0 t53 fun t54 w =>
          add w 0 t54 fun t55 w =>
          ld w t55 fun t56 w =>
          idx w 2 t56 t11 fun t58 w =>
          add w 1 t58 fun t59 w =>
          ld w t59 fun t60 w =>
          bin w .geq t12 t60 fun t61 w =>
          Br t61 (
            k (.tuple #[(.pointer none), (.int .i64 0)]) w
          ) (
            nn w t0 fun t64 w =>
            add w 0 t64 fun t65 w =>
            ld w t65 fun t66 w =>
            nn w t66 fun t67 w =>
            add w 1 t67 fun t68 w =>
            ld w t68 fun t69 w =>
            idx w 1 t69 t11 fun t71 w =>
            ld w t71 fun t72 w =>
            k (.tuple #[t72, t12]) w
          )
        )
      )
    )
  )
theorem b_space_Space_find_eq (t0 t1 : Value) (k : K) (w : World) : b_space_Space_find t0 t1 k w = bodyW Tryz.prog [] Tryz.f186 [t0, t1] k w := by kernel_rfl
/-- (*portage/space.Space).find -/
theorem b_space_Space_find_walk {t0 t1 : Value} {k : K} {w : World} (h : b_space_Space_find t0 t1 k w) : call Tryz.prog w 186 [t0, t1] k :=
  calls_of_body Tryz.func186 (b_space_Space_find_eq t0 t1 k w ▸ h) (Nat.le_of_ble_eq_true rfl)
/-! ### (*portage/space.Space).fits -/
def b_space_Space_fits (t0 t1 : Value) (k : K) (w : World) : Prop :=
  box w 66 t1 fun t3 w =>
  drawS w fun S w =>
  add w 0 t3 fun t8 w =>
  nn w t0 fun t12 w =>
  add w 0 t12 fun t13 w =>
  held S w (fun w k => ld w t8 k) fun t9 w =>
  len w t9 fun t10 w =>
  held S w (fun w k => ld w t13 k) fun t14 w =>
  nn w t14 fun t15 w =>
  add w 0 t15 fun t16 w =>
  add w 0 t16 fun t17 w =>
  held S w (fun w k => ld w t17 k) fun t18 w =>
  len w t18 fun t19 w =>
  bin w .lss t10 t19 fun t20 w =>
  Br t20 (
    k (.bool false) w
  ) (
    nn w t0 fun t22 w =>
    add w 0 t22 fun t23 w =>
    ld w t23 fun t24 w =>
    nn w t24 fun t25 w =>
    add w 0 t25 fun t26 w =>
    add w 0 t26 fun t27 w =>
    ld w t27 fun t28 w =>
    len w t28 fun t29 w =>
    loop [(.int .i64 0)] w fun J1 s1 next1 w =>
    bin w .lss (at' s1 0) t29 fun t31 w =>
    Br t31 (
      idx w 2 t28 (at' s1 0) fun t33 w =>
      ldN w 2 t33 fun t34 w =>
      new w 95 #[.int .i64 0, .int .i64 0] fun t6 w =>
      st w 2 t6 t34 fun _ w =>
      add w 0 t3 fun t35 w =>
      ld w t35 fun t36 w =>
      idx w 2 t36 (at' s1 0) fun t38 w =>
      ldN w 2 t38 fun t39 w =>
      new w 95 #[.int .i64 0, .int .i64 0] fun t7 w =>
      st w 2 t7 t39 fun _ w =>
      add w 1 t7 fun t40 w =>
      ld w t40 fun t41 w =>
      add w 1 t6 fun t42 w =>
      ld w t42 fun t43 w =>
      bin w .lss t41 t43 fun t44 w =>
      Br t44 (
        k (.bool false) w
      ) (
        ldN w 2 t7 fun t46 w =>
        call Tryz.prog w 140 [t46] fun t47 w =>
        Br t47 (
          ldN w 2 t6 fun t49 w =>
          call Tryz.prog w 140 [t49] fun t50 w =>
          un w .not t50 fun t51 w =>
          Br t51 (
            k (.bool false) w
          ) (
            ldN w 2 t6 fun t55 w =>
            call Tryz.prog w 140 [t55] fun t56 w =>
            Br t56 (
              ldN w 2 t7 fun t58 w =>
              call Tryz.prog w 140 [t58] fun t59 w =>
              un w .not t59 fun t60 w =>
              Br t60 (
                nn w t0 fun t64 w =>
                add w 0 t64 fun t65 w =>
                ld w t65 fun t66 w =>
                nn w t66 fun t67 w =>
                add w 1 t67 fun t68 w =>
                ld w t68 fun t69 w =>
                idx w 1 t69 (at' s1 0) fun t71 w =>
                ld w t71 fun t72 w =>
                call Tryz.prog w 120 [t72] fun t73 w =>
                bin w .gtr t73 (.int .i64 0) fun t74 w =>
                Br t74 (
                  k (.bool false) w
                ) (
                  bin w .add (at' s1 0) (.int .i64 1) fun t77 w =>
                  next1 [t77] w
                )
              ) (
                bin w .add (at' s1 0) (.int .i64 1) fun t77_1 w =>
                next1 [t77_1] w
              )
            ) (
              bin w .add (at' s1 0) (.int .i64 1) fun t77_2 w =>
              next1 [t77_2] w
            )
          )
        ) (
          ldN w 2 t6 fun t55_1 w =>
          call Tryz.prog w 140 [t55_1] fun t56_1 w =>
          Br t56_1 (
            ldN w 2 t7 fun t58_1 w =>
            call Tryz.prog w 140 [t58_1] fun t59_1 w =>
            un w .not t59_1 fun t60_1 w =>
            Br t60_1 (
              nn w t0 fun t64_1 w =>
              add w 0 t64_1 fun t65_1 w =>
              ld w t65_1 fun t66_1 w =>
              nn w t66_1 fun t67_1 w =>
              add w 1 t67_1 fun t68_1 w =>
              ld w t68_1 fun t69_1 w =>
              idx w 1 t69_1 (at' s1 0) fun t71_1 w =>
              ld w t71_1 fun t72_1 w =>
              call Tryz.prog w 120 [t72_1] fun t73_1 w =>
              bin w .gtr t73_1 (.int .i64 0) fun t74_1 w =>
              Br t74_1 (
                k (.bool false) w
              ) (
                bin w .add (at' s1 0) (.int .i64 1) fun t77_3 w =>
                next1 [t77_3] w
              )
            ) (
              bin w .add (at' s1 0) (.int .i64 1) fun t77_4 w =>
              next1 [t77_4] w
            )
          ) (
            bin w .add (at' s1 0) (.int .i64 1) fun t77_5 w =>
            next1 [t77_5] w
          )
        )
      )
    ) (
      k (.bool true) w
    )
  )
theorem b_space_Space_fits_eq (t0 t1 : Value) (k : K) (w : World) : b_space_Space_fits t0 t1 k w = bodyW Tryz.prog [(4, [30])] Tryz.f90 [t0, t1] k w := by kernel_rfl
/-- (*portage/space.Space).fits -/
theorem b_space_Space_fits_walk {t0 t1 : Value} {k : K} {w : World} (h : b_space_Space_fits t0 t1 k w) : call Tryz.prog w 90 [t0, t1] k :=
  calls_of_body Tryz.func90 (b_space_Space_fits_eq t0 t1 k w ▸ h) (Nat.le_of_ble_eq_true rfl)
/-! ### (*portage/space.Space).free -/
def b_space_Space_free (t0 t1 : Value) (k : K) (w : World) : Prop :=
  drawS w fun S w =>
  nn w t0 fun t6 w =>
  add w 0 t6 fun t7 w =>
  nn w t0 fun t19 w =>
  add w 0 t19 fun t20 w =>
  held S w (fun w k => ld w t7 k) fun t8 w =>
  nn w t8 fun t9 w =>
  add w 0 t9 fun t10 w =>
  add w 0 t10 fun t11 w =>
  held S w (fun w k => ld w t11 k) fun t12 w =>
  idx w 2 t12 t1 fun t14 w =>
  add w 1 t14 fun t15 w =>
  held S w (fun w k => ld w t15 k) fun t16 w =>
  bin w .sub t16 (.int .i64 2) fun t17 w =>
  held S w (fun w k => ld w t20 k) fun t21 w =>
  nn w t21 fun t22 w =>
  add w 1 t22 fun t23 w =>
  held S w (fun w k => ld w t23 k) fun t24 w =>
  idx w 1 t24 t1 fun t26 w =>
  held S w (fun w k => ld w t26 k) fun t27 w =>
  call Tryz.prog w 120 [t27] fun t28 w =>
  S w ∧
  bin w .sub t17 t28 fun t29 w =>
  k t29 w
theorem b_space_Space_free_eq (t0 t1 : Value) (k : K) (w : World) : b_space_Space_free t0 t1 k w = bodyW Tryz.prog [] Tryz.f66 [t0, t1] k w := by kernel_rfl
/-- (*portage/space.Space).free -/
theorem b_space_Space_free_walk {t0 t1 : Value} {k : K} {w : World} (h : b_space_Space_free t0 t1 k w) : call Tryz.prog w 66 [t0, t1] k :=
  calls_of_body Tryz.func66 (b_space_Space_free_eq t0 t1 k w ▸ h) (Nat.le_of_ble_eq_true rfl)
/-! ### portage/space.copied -/
def b_space_copied (t0 : Value) (k : K) (w : World) : Prop :=
  box w 66 t0 fun t1 w =>
  new w 66 #[.slice none 0 0] fun t2 w =>
  add w 0 t1 fun t3 w =>
  ld w t3 fun t4 w =>
  call Tryz.prog w 135 [t4] fun t5 w =>
  bld w #[(0, 1)] #[.slice none 0 0] [(0, t5)] fun t6 w =>
  st w 1 t2 t6 fun _ w =>
  ldN w 1 t2 fun t100002 w =>
  k t100002 w
theorem b_space_copied_eq (t0 : Value) (k : K) (w : World) : b_space_copied t0 k w = bodyW Tryz.prog [] Tryz.f86 [t0] k w := by kernel_rfl
/-- portage/space.copied -/
theorem b_space_copied_walk {t0 : Value} {k : K} {w : World} (h : b_space_copied t0 k w) : call Tryz.prog w 86 [t0] k :=
  calls_of_body Tryz.func86 (b_space_copied_eq t0 k w ▸ h) (Nat.le_of_ble_eq_true rfl)
/-! ### portage/space.member -/
def b_space_member (t0 : Value) (k : K) (w : World) : Prop :=
  box w 95 t0 fun t1 w =>
  add w 0 t1 fun t3 w =>
  ld w t3 fun t4 w =>
  bin w .neq t4 (.int .i64 3) fun t5 w =>
  k t5 w
theorem b_space_member_eq (t0 : Value) (k : K) (w : World) : b_space_member t0 k w = bodyW Tryz.prog [] Tryz.f140 [t0] k w := by kernel_rfl
/-- portage/space.member -/
theorem b_space_member_walk {t0 : Value} {k : K} {w : World} (h : b_space_member t0 k w) : call Tryz.prog w 140 [t0] k :=
  calls_of_body Tryz.func140 (b_space_member_eq t0 k w ▸ h) (Nat.le_of_ble_eq_true rfl)
/-! ### portage/space.newShelf -/
def b_space_newShelf (t0 : Value) (k : K) (w : World) : Prop :=
  new w 211 #[.pointer none, .pointer none, .pointer none] fun t3 w =>
  loop [(.int .i64 0)] w fun J1 s1 next1 w =>
  bin w .lss (at' s1 0) (.int .i64 3) fun t6 w =>
  Br t6 (
    call Tryz.prog w 141 [t0] fun t11 w =>
    tup w 0 t11 fun t12 w =>
    tup w 1 t11 fun t13 w =>
    idxA w 3 1 t3 (at' s1 0) fun t14 w =>
    st w 1 t14 t12 fun _ w =>
    bin w .add (at' s1 0) (.int .i64 1) fun t15 w =>
    next1 [t15] w
  ) (
    idxA w 3 1 t3 (.int .i64 0) fun t16 w =>
    ld w t16 fun t17 w =>
    idxA w 3 1 t3 (.int .i64 1) fun t18 w =>
    ld w t18 fun t19 w =>
    idxA w 3 1 t3 (.int .i64 2) fun t20 w =>
    ld w t20 fun t21 w =>
    bld w #[(0, 1), (1, 1), (2, 1)] #[.pointer none, .pointer none, .pointer none] [(0, t17), (1, t19), (2, t21)] fun t22 w =>
    box w 173 t22 fun t23 w =>
    k t23 w
  )
theorem b_space_newShelf_eq (t0 : Value) (k : K) (w : World) : b_space_newShelf t0 k w = bodyW Tryz.prog [(3, [5])] Tryz.f91 [t0] k w := by kernel_rfl
/-- portage/space.newShelf -/
theorem b_space_newShelf_walk {t0 : Value} {k : K} {w : World} (h : b_space_newShelf t0 k w) : call Tryz.prog w 91 [t0] k :=
  calls_of_body Tryz.func91 (b_space_newShelf_eq t0 k w ▸ h) (Nat.le_of_ble_eq_true rfl)
/-! ### (*portage/space.shelf).clone -/
def b_space_shelf_clone (t0 : Value) (k : K) (w : World) : Prop :=
  drawS w fun S w =>
  nn w t0 fun t4 w =>
  add w 0 t4 fun t5 w =>
  nn w t0 fun t9 w =>
  add w 1 t9 fun t10 w =>
  nn w t0 fun t14 w =>
  add w 2 t14 fun t15 w =>
  held S w (fun w k => ld w t5 k) fun t6 w =>
  held S w (fun w k => ld w t10 k) fun t11 w =>
  held S w (fun w k => ld w t15 k) fun t16 w =>
  call Tryz.prog w 204 [t6] fun t7 w =>
  S w ∧
  call Tryz.prog w 204 [t11] fun t12 w =>
  S w ∧
  call Tryz.prog w 204 [t16] fun t17 w =>
  S w ∧
  bld w #[(0, 1), (1, 1), (2, 1)] #[.pointer none, .pointer none, .pointer none] [(0, t7), (1, t12), (2, t17)] fun t18 w =>
  box w 173 t18 fun t19 w =>
  S w ∧
  k t19 w
theorem b_space_shelf_clone_eq (t0 : Value) (k : K) (w : World) : b_space_shelf_clone t0 k w = bodyW Tryz.prog [] Tryz.f169 [t0] k w := by kernel_rfl
/-- (*portage/space.shelf).clone -/
theorem b_space_shelf_clone_walk {t0 : Value} {k : K} {w : World} (h : b_space_shelf_clone t0 k w) : call Tryz.prog w 169 [t0] k :=
  calls_of_body Tryz.func169 (b_space_shelf_clone_eq t0 k w ▸ h) (Nat.le_of_ble_eq_true rfl)
/-! ### (*portage/space.shelf).grow -/
def b_space_shelf_grow (t0 t1 : Value) (k : K) (w : World) : Prop :=
  drawS w fun S w =>
  nn w t0 fun t7 w =>
  add w 0 t7 fun t8 w =>
  nn w t0 fun t11 w =>
  add w 1 t11 fun t12 w =>
  nn w t0 fun t15 w =>
  add w 2 t15 fun t16 w =>
  held S w (fun w k => ld w t8 k) fun t9 w =>
  held S w (fun w k => ld w t12 k) fun t13 w =>
  held S w (fun w k => ld w t16 k) fun t17 w =>
  bldS w 171 3 1 [.pointer none] [(0, t9), (1, t13), (2, t17)] fun t18 w =>
  len w t18 fun t19 w =>
  loop [(.int .i64 0)] w fun J1 s1 next1 w =>
  bin w .lss (at' s1 0) t19 fun t21 w =>
  Br t21 (
    idx w 1 t18 (at' s1 0) fun t22 w =>
    ld w t22 fun t23 w =>
    call Tryz.prog w 143 [t23] fun t27 w =>
    bin w .sub t1 t27 fun t28 w =>
    call Tryz.prog w 142 [t23, t28] fun t29 w =>
    bin w .add (at' s1 0) (.int .i64 1) fun t30 w =>
    next1 [t30] w
  ) (
    k (.tuple #[]) w
  )
theorem b_space_shelf_grow_eq (t0 t1 : Value) (k : K) (w : World) : b_space_shelf_grow t0 t1 k w = bodyW Tryz.prog [(1, [20])] Tryz.f92 [t0, t1] k w := by kernel_rfl
/-- (*portage/space.shelf).grow -/
theorem b_space_shelf_grow_walk {t0 t1 : Value} {k : K} {w : World} (h : b_space_shelf_grow t0 t1 k w) : call Tryz.prog w 92 [t0, t1] k :=
  calls_of_body Tryz.func92 (b_space_shelf_grow_eq t0 t1 k w ▸ h) (Nat.le_of_ble_eq_true rfl)
/-! ### (*portage/space.shelf).used -/
def b_space_shelf_used (t0 : Value) (k : K) (w : World) : Prop :=
  drawS w fun S w =>
  nn w t0 fun t4 w =>
  add w 0 t4 fun t5 w =>
  nn w t0 fun t9 w =>
  add w 2 t9 fun t10 w =>
  held S w (fun w k => ld w t5 k) fun t6 w =>
  held S w (fun w k => ld w t10 k) fun t11 w =>
  call Tryz.prog w 177 [t6] fun t7 w =>
  S w ∧
  call Tryz.prog w 177 [t11] fun t12 w =>
  bin w .add t7 t12 fun t13 w =>
  k t13 w
theorem b_space_shelf_used_eq (t0 : Value) (k : K) (w : World) : b_space_shelf_used t0 k w = bodyW Tryz.prog [] Tryz.f120 [t0] k w := by kernel_rfl
/-- (*portage/space.shelf).used -/
theorem b_space_shelf_used_walk {t0 : Value} {k : K} {w : World} (h : b_space_shelf_used t0 k w) : call Tryz.prog w 120 [t0] k :=
  calls_of_body Tryz.func120 (b_space_shelf_used_eq t0 k w ▸ h) (Nat.le_of_ble_eq_true rfl)
/-! ### (*portage/space.state).clone -/
def b_space_state_clone (t0 : Value) (k : K) (w : World) : Prop :=
  nn w t0 fun t7 w =>
  add w 0 t7 fun t8 w =>
  ldN w 1 t8 fun t9 w =>
  bld w #[(0, 1), (1, 1)] #[.slice none 0 0, .slice none 0 0] [(0, t9)] fun t10 w =>
  box w 129 t10 fun t11 w =>
  nn w t0 fun t13 w =>
  add w 1 t13 fun t14 w =>
  ld w t14 fun t15 w =>
  len w t15 fun t16 w =>
  loop [(.int .i64 0)] w fun J1 s1 next1 w =>
  bin w .lss (at' s1 0) t16 fun t18 w =>
  Br t18 (
    idx w 1 t15 (at' s1 0) fun t19 w =>
    ld w t19 fun t20 w =>
    drawS w fun S w =>
    nn w t11 fun t23 w =>
    add w 1 t23 fun t24 w =>
    held S w (fun w k => ld w t24 k) fun t25 w =>
    call Tryz.prog w 169 [t20] fun t27 w =>
    S w ∧
    bldS w 161 1 1 [.pointer none] [(0, t27)] fun t28 w =>
    S w ∧
    app w 161 1 8 #[.pointer none] t25 t28 fun t29 w =>
    nn w t11 fun t30 w =>
    add w 1 t30 fun t31 w =>
    st w 1 t31 t29 fun _ w =>
    bin w .add (at' s1 0) (.int .i64 1) fun t32 w =>
    next1 [t32] w
  ) (
    k t11 w
  )
theorem b_space_state_clone_eq (t0 : Value) (k : K) (w : World) : b_space_state_clone t0 k w = bodyW Tryz.prog [(3, [17])] Tryz.f110 [t0] k w := by kernel_rfl
/-- (*portage/space.state).clone -/
theorem b_space_state_clone_walk {t0 : Value} {k : K} {w : World} (h : b_space_state_clone t0 k w) : call Tryz.prog w 110 [t0] k :=
  calls_of_body Tryz.func110 (b_space_state_clone_eq t0 k w ▸ h) (Nat.le_of_ble_eq_true rfl)
end Go.Proofs.YtemenmmekddjaaaGreatDoor
