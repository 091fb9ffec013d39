/- The bodies of functions, written out by program from the loaded translation; each is held against it by the kernel. No condition. -/
import Derived.Test.YtemenmmekddjaaaGreatDoorProg
import Derived.KernelRfl
import Derived.Test.YtemenmmekddjaaaGreatDoorJ03
set_option linter.all false
set_option linter.unusedVariables false
set_option linter.unusedSimpArgs false
set_option linter.unnecessarySimpa false
set_option linter.unusedSectionVars false
set_option linter.constructorNameAsVariable false
namespace Go.Proofs.YtemenmmekddjaaaGreatDoor
open Go Go.Wx Go.W
set_option maxRecDepth 100000
set_option linter.unusedVariables false
/-! ### portage/pages.New -/
def b_pages_New (t0 t1 : Value) (k : K) (w : World) : Prop :=
  nmap w fun t7 w =>
  bld w #[(0, 1), (1, 1), (2, 1), (3, 1)] #[.pointer none, .pointer none, .map none, .map none] [(0, t0), (1, t1), (2, t7)] fun t8 w =>
  box w 123 t8 fun t9 w =>
  k t9 w
theorem b_pages_New_eq (t0 t1 : Value) (k : K) (w : World) : b_pages_New t0 t1 k w = bodyW Tryz.prog [] Tryz.f34 [t0, t1] k w := by kernel_rfl
/-- portage/pages.New -/
theorem b_pages_New_walk {t0 t1 : Value} {k : K} {w : World} (h : b_pages_New t0 t1 k w) : call Tryz.prog w 34 [t0, t1] k :=
  calls_of_body Tryz.func34 (b_pages_New_eq t0 t1 k w ▸ h) (Nat.le_of_ble_eq_true rfl)
/-! ### (*portage/pages.Store).Adopt -/
def b_pages_Store_Adopt (t0 t1 : Value) (k : K) (w : World) : Prop :=
  nn w t0 fun t11 w =>
  add w 2 t11 fun t12 w =>
  ld w t12 fun t13 w =>
  call Tryz.prog w 111 [t13] fun t14 w =>
  new w 22 #[.slice none 0 0] fun t6 w =>
  call Tryz.prog w 149 [t0, t1, t6] fun t17 w =>
  call Tryz.prog w 124 [t0, t1, (.int .i64 1)] fun t20 w =>
  eq w true true .iface t17 .nilIface fun t22 w =>
  Br t22 (
    nn w t0 fun t25 w =>
    add w 2 t25 fun t26 w =>
    st w 1 t26 t14 fun _ w =>
    ld w t6 fun t27 w =>
    len w t27 fun t28 w =>
    loop [(.int .i64 0)] w fun J1 s1 next1 w =>
    bin w .lss (at' s1 0) t28 fun t30 w =>
    Br t30 (
      idx w 1 t27 (at' s1 0) fun t31 w =>
      ld w t31 fun t32 w =>
      nn w t0 fun t34 w =>
      add w 1 t34 fun t35 w =>
      ld w t35 fun t36 w =>
      call Tryz.prog w 150 [t36, t32] fun t38 w =>
      bin w .add (at' s1 0) (.int .i64 1) fun t39 w =>
      next1 [t39] w
    ) (
      k t17 w
    )
  ) (
    k t17 w
  )
theorem b_pages_Store_Adopt_eq (t0 t1 : Value) (k : K) (w : World) : b_pages_Store_Adopt t0 t1 k w = bodyW Tryz.prog [(8, [29])] Tryz.f100 [t0, t1] k w := by kernel_rfl
/-- (*portage/pages.Store).Adopt -/
theorem b_pages_Store_Adopt_walk {t0 t1 : Value} {k : K} {w : World} (h : b_pages_Store_Adopt t0 t1 k w) : call Tryz.prog w 100 [t0, t1] k :=
  calls_of_body Tryz.func100 (b_pages_Store_Adopt_eq t0 t1 k w ▸ h) (Nat.le_of_ble_eq_true rfl)
/-! ### (*portage/pages.Store).Back -/
def b_pages_Store_Back (t0 : Value) (k : K) (w : World) : Prop :=
  nn w t0 fun t4 w =>
  add w 3 t4 fun t5 w =>
  ld w t5 fun t6 w =>
  eq w false true .map t6 (.map none) fun t7 w =>
  Br t7 (
    k (.iface 149 (.int .i64 100)) w
  ) (
    nn w t0 fun t12 w =>
    add w 3 t12 fun t13 w =>
    ld w t13 fun t14 w =>
    nn w t0 fun t15 w =>
    add w 2 t15 fun t16 w =>
    st w 1 t16 t14 fun _ w =>
    nn w t0 fun t17 w =>
    add w 3 t17 fun t18 w =>
    st w 1 t18 (.map none) fun _ w =>
    k .nilIface w
  )
theorem b_pages_Store_Back_eq (t0 : Value) (k : K) (w : World) : b_pages_Store_Back t0 k w = bodyW Tryz.prog [] Tryz.f55 [t0] k w := by kernel_rfl
/-- (*portage/pages.Store).Back -/
theorem b_pages_Store_Back_walk {t0 : Value} {k : K} {w : World} (h : b_pages_Store_Back t0 k w) : call Tryz.prog w 55 [t0] k :=
  calls_of_body Tryz.func55 (b_pages_Store_Back_eq t0 k w ▸ h) (Nat.le_of_ble_eq_true rfl)
/-! ### (*portage/pages.Store).Begin -/
def b_pages_Store_Begin (t0 : Value) (k : K) (w : World) : Prop :=
  nn w t0 fun t4 w =>
  add w 3 t4 fun t5 w =>
  ld w t5 fun t6 w =>
  eq w true true .map t6 (.map none) fun t7 w =>
  Br t7 (
    k (.iface 149 (.int .i64 100)) w
  ) (
    nn w t0 fun t11 w =>
    add w 2 t11 fun t12 w =>
    ld w t12 fun t13 w =>
    call Tryz.prog w 111 [t13] fun t14 w =>
    nn w t0 fun t15 w =>
    add w 3 t15 fun t16 w =>
    st w 1 t16 t14 fun _ w =>
    k .nilIface w
  )
theorem b_pages_Store_Begin_eq (t0 : Value) (k : K) (w : World) : b_pages_Store_Begin t0 k w = bodyW Tryz.prog [] Tryz.f50 [t0] k w := by kernel_rfl
/-- (*portage/pages.Store).Begin -/
theorem b_pages_Store_Begin_walk {t0 : Value} {k : K} {w : World} (h : b_pages_Store_Begin t0 k w) : call Tryz.prog w 50 [t0] k :=
  calls_of_body Tryz.func50 (b_pages_Store_Begin_eq t0 k w ▸ h) (Nat.le_of_ble_eq_true rfl)
/-! ### (*portage/pages.Store).Commit -/
def b_pages_Store_Commit (t0 : Value) (k : K) (w : World) : Prop :=
  nn w t0 fun t4 w =>
  add w 3 t4 fun t5 w =>
  ld w t5 fun t6 w =>
  eq w false true .map t6 (.map none) fun t7 w =>
  Br t7 (
    k (.iface 149 (.int .i64 100)) w
  ) (
    nn w t0 fun t10 w =>
    add w 3 t10 fun t11 w =>
    st w 1 t11 (.map none) fun _ w =>
    k .nilIface w
  )
theorem b_pages_Store_Commit_eq (t0 : Value) (k : K) (w : World) : b_pages_Store_Commit t0 k w = bodyW Tryz.prog [] Tryz.f53 [t0] k w := by kernel_rfl
/-- (*portage/pages.Store).Commit -/
theorem b_pages_Store_Commit_walk {t0 : Value} {k : K} {w : World} (h : b_pages_Store_Commit t0 k w) : call Tryz.prog w 53 [t0] k :=
  calls_of_body Tryz.func53 (b_pages_Store_Commit_eq t0 k w ▸ h) (Nat.le_of_ble_eq_true rfl)
/-! ### (*portage/pages.Store).Drop -/
def b_pages_Store_Drop (t0 t1 : Value) (k : K) (w : World) : Prop :=
  nn w t0 fun t9 w =>
  add w 2 t9 fun t10 w =>
  ld w t10 fun t11 w =>
  lkp w (.agg #[.int .i64 0, .slice none 0 0, .slice none 0 0, .int .i64 0, .int .i64 0]) true t11 t1 fun t13 w =>
  tup w 0 t13 fun t14 w =>
  tup w 1 t13 fun t15 w =>
  new w 121 #[.int .i64 0, .slice none 0 0, .slice none 0 0, .int .i64 0, .int .i64 0] fun t5 w =>
  st w 5 t5 t14 fun _ w =>
  un w .not t15 fun t18 w =>
  Br t18 (
    k (.iface 149 (.int .i64 81)) w
  ) (
    add w 4 t5 fun t21 w =>
    ld w t21 fun t22 w =>
    bin w .eql t22 (.int .i64 0) fun t23 w =>
    Br t23 (
      k (.iface 149 (.int .i64 100)) w
    ) (
      call Tryz.prog w 124 [t0, t1, (.int .i64 (-1))] fun t27 w =>
      call Tryz.prog w 123 [t0, t1, (.int .i64 (-1))] fun t30 w =>
      add w 3 t5 fun t31 w =>
      ld w t31 fun t32 w =>
      bin w .eql t32 (.int .i64 1) fun t33 w =>
      Br t33 (
        call Tryz.prog w 125 [t0, t1] fun t36 w =>
        k .nilIface w
      ) (
        k .nilIface w
      )
    )
  )
theorem b_pages_Store_Drop_eq (t0 t1 : Value) (k : K) (w : World) : b_pages_Store_Drop t0 t1 k w = bodyW Tryz.prog [] Tryz.f73 [t0, t1] k w := by kernel_rfl
/-- (*portage/pages.Store).Drop -/
theorem b_pages_Store_Drop_walk {t0 t1 : Value} {k : K} {w : World} (h : b_pages_Store_Drop t0 t1 k w) : call Tryz.prog w 73 [t0, t1] k :=
  calls_of_body Tryz.func73 (b_pages_Store_Drop_eq t0 t1 k w ▸ h) (Nat.le_of_ble_eq_true rfl)
/-! ### (*portage/pages.Store).Get -/
def b_pages_Store_Get (t0 t1 : Value) (k : K) (w : World) : Prop :=
  new w 119 #[.int .i64 0, .slice none 0 0, .slice none 0 0] fun t4 w =>
  nn w t0 fun t10 w =>
  add w 2 t10 fun t11 w =>
  ld w t11 fun t12 w =>
  lkp w (.agg #[.int .i64 0, .slice none 0 0, .slice none 0 0, .int .i64 0, .int .i64 0]) true t12 t1 fun t14 w =>
  tup w 0 t14 fun t15 w =>
  tup w 1 t14 fun t16 w =>
  new w 121 #[.int .i64 0, .slice none 0 0, .slice none 0 0, .int .i64 0, .int .i64 0] fun t6 w =>
  st w 5 t6 t15 fun _ w =>
  un w .not t16 fun t18 w =>
  Br t18 (
    bld w #[(0, 1), (1, 1), (2, 1)] #[.int .i64 0, .slice none 0 0, .slice none 0 0] [] fun t19 w =>
    st w 3 t4 t19 fun _ w =>
    ldN w 3 t4 fun t100004 w =>
    k (.tuple #[t100004, (.iface 149 (.int .i64 81))]) w
  ) (
    add w 0 t6 fun t21 w =>
    ldN w 3 t21 fun t22 w =>
    call Tryz.prog w 129 [t22] fun t23 w =>
    st w 3 t4 t23 fun _ w =>
    ldN w 3 t4 fun t100004_1 w =>
    k (.tuple #[t100004_1, .nilIface]) w
  )
theorem b_pages_Store_Get_eq (t0 t1 : Value) (k : K) (w : World) : b_pages_Store_Get t0 t1 k w = bodyW Tryz.prog [] Tryz.f79 [t0, t1] k w := by kernel_rfl
/-- (*portage/pages.Store).Get -/
theorem b_pages_Store_Get_walk {t0 t1 : Value} {k : K} {w : World} (h : b_pages_Store_Get t0 t1 k w) : call Tryz.prog w 79 [t0, t1] k :=
  calls_of_body Tryz.func79 (b_pages_Store_Get_eq t0 t1 k w ▸ h) (Nat.le_of_ble_eq_true rfl)
/-! ### (*portage/pages.Store).Hold -/
def b_pages_Store_Hold (t0 t1 : Value) (k : K) (w : World) : Prop :=
  nn w t0 fun t9 w =>
  add w 2 t9 fun t10 w =>
  ld w t10 fun t11 w =>
  lkp w (.agg #[.int .i64 0, .slice none 0 0, .slice none 0 0, .int .i64 0, .int .i64 0]) true t11 t1 fun t13 w =>
  tup w 0 t13 fun t14 w =>
  tup w 1 t13 fun t15 w =>
  new w 121 #[.int .i64 0, .slice none 0 0, .slice none 0 0, .int .i64 0, .int .i64 0] fun t5 w =>
  st w 5 t5 t14 fun _ w =>
  un w .not t15 fun t17 w =>
  Br t17 (
    k (.iface 149 (.int .i64 81)) w
  ) (
    call Tryz.prog w 123 [t0, t1, (.int .i64 1)] fun t21 w =>
    call Tryz.prog w 124 [t0, t1, (.int .i64 1)] fun t24 w =>
    k .nilIface w
  )
theorem b_pages_Store_Hold_eq (t0 t1 : Value) (k : K) (w : World) : b_pages_Store_Hold t0 t1 k w = bodyW Tryz.prog [] Tryz.f72 [t0, t1] k w := by kernel_rfl
/-- (*portage/pages.Store).Hold -/
theorem b_pages_Store_Hold_walk {t0 t1 : Value} {k : K} {w : World} (h : b_pages_Store_Hold t0 t1 k w) : call Tryz.prog w 72 [t0, t1] k :=
  calls_of_body Tryz.func72 (b_pages_Store_Hold_eq t0 t1 k w ▸ h) (Nat.le_of_ble_eq_true rfl)
/-! ### (*portage/pages.Store).Holds -/
def b_pages_Store_Holds (t0 t1 : Value) (k : K) (w : World) : Prop :=
  nn w t0 fun t6 w =>
  add w 2 t6 fun t7 w =>
  ld w t7 fun t8 w =>
  lkp w (.agg #[.int .i64 0, .slice none 0 0, .slice none 0 0, .int .i64 0, .int .i64 0]) false t8 t1 fun t10 w =>
  fld w none 3 t10 fun t11 w =>
  k t11 w
theorem b_pages_Store_Holds_eq (t0 t1 : Value) (k : K) (w : World) : b_pages_Store_Holds t0 t1 k w = bodyW Tryz.prog [] Tryz.f14 [t0, t1] k w := by kernel_rfl
/-- (*portage/pages.Store).Holds -/
theorem b_pages_Store_Holds_walk {t0 t1 : Value} {k : K} {w : World} (h : b_pages_Store_Holds t0 t1 k w) : call Tryz.prog w 14 [t0, t1] k :=
  calls_of_body Tryz.func14 (b_pages_Store_Holds_eq t0 t1 k w ▸ h) (Nat.le_of_ble_eq_true rfl)
/-! ### (*portage/pages.Store).Pages -/
def b_pages_Store_Pages (t0 : Value) (k : K) (w : World) : Prop :=
  nn w t0 fun t4 w =>
  add w 2 t4 fun t5 w =>
  ld w t5 fun t6 w =>
  call Tryz.prog w 64 [t6] fun t7 w =>
  call Tryz.prog w 63 [t7] fun t8 w =>
  k t8 w
theorem b_pages_Store_Pages_eq (t0 : Value) (k : K) (w : World) : b_pages_Store_Pages t0 k w = bodyW Tryz.prog [] Tryz.f12 [t0] k w := by kernel_rfl
/-- (*portage/pages.Store).Pages -/
theorem b_pages_Store_Pages_walk {t0 : Value} {k : K} {w : World} (h : b_pages_Store_Pages t0 k w) : call Tryz.prog w 12 [t0] k :=
  calls_of_body Tryz.func12 (b_pages_Store_Pages_eq t0 k w ▸ h) (Nat.le_of_ble_eq_true rfl)
/-! ### (*portage/pages.Store).Put -/
def b_pages_Store_Put (t0 t1 : Value) (k : K) (w : World) : Prop :=
  box w 119 t1 fun t3 w =>
  ldN w 3 t3 fun t16 w =>
  call Tryz.prog w 156 [t16] fun t17 w =>
  tup w 0 t17 fun t18 w =>
  tup w 1 t17 fun t19 w =>
  eq w true true .iface t19 .nilIface fun t21 w =>
  Br t21 (
    k (.tuple #[(.int .i64 0), t19]) w
  ) (
    ldN w 3 t3 fun t24 w =>
    call Tryz.prog w 157 [t0, t24] fun t25 w =>
    eq w true true .iface t25 .nilIface fun t27 w =>
    Br t27 (
      k (.tuple #[(.int .i64 0), t25]) w
    ) (
      nn w t0 fun t31 w =>
      add w 1 t31 fun t32 w =>
      ld w t32 fun t33 w =>
      call Tryz.prog w 158 [t33] fun t34 w =>
      tup w 0 t34 fun t35 w =>
      tup w 1 t34 fun t36 w =>
      eq w true true .iface t36 .nilIface fun t38 w =>
      Br t38 (
        k (.tuple #[(.int .i64 0), t36]) w
      ) (
        call Tryz.prog w 30 [t35] fun t42 w =>
        tup w 0 t42 fun t43 w =>
        tup w 1 t42 fun t44 w =>
        nn w t0 fun t46 w =>
        add w 0 t46 fun t47 w =>
        ld w t47 fun t48 w =>
        call Tryz.prog w 159 [t48, t43, t44, t18] fun t52 w =>
        eq w true true .iface t52 .nilIface fun t54 w =>
        Br t54 (
          nn w t0 fun t56 w =>
          add w 1 t56 fun t57 w =>
          ld w t57 fun t58 w =>
          call Tryz.prog w 160 [t58, t35] fun t60 w =>
          call Tryz.prog w 107 [(.string ⟨#[112, 97, 103, 101]⟩), t43, t44, t52] fun t64 w =>
          k (.tuple #[(.int .i64 0), t64]) w
        ) (
          drawS w fun S w =>
          nn w t0 fun t66 w =>
          add w 2 t66 fun t67 w =>
          held S w (fun w k => ld w t67 k) fun t68 w =>
          held S w (fun w k => ldN w 3 t3 k) fun t70 w =>
          call Tryz.prog w 129 [t70] fun t71 w =>
          S w ∧
          bld w #[(0, 3), (3, 1), (4, 1)] #[.int .i64 0, .slice none 0 0, .slice none 0 0, .int .i64 0, .int .i64 0] [(0, t71)] fun t72 w =>
          mput w t68 t35 t72 fun _ w =>
          ldN w 3 t3 fun t73 w =>
          call Tryz.prog w 161 [t73] fun t74 w =>
          len w t74 fun t75 w =>
          loop [(.int .i64 0)] w fun J1 s1 next1 w =>
          bin w .lss (at' s1 0) t75 fun t77 w =>
          Br t77 (
            idx w 1 t74 (at' s1 0) fun t78 w =>
            ld w t78 fun t79 w =>
            call Tryz.prog w 123 [t0, t79, (.int .i64 1)] fun t82 w =>
            bin w .add (at' s1 0) (.int .i64 1) fun t83 w =>
            next1 [t83] w
          ) (
            k (.tuple #[t35, .nilIface]) w
          )
        )
      )
    )
  )
theorem b_pages_Store_Put_eq (t0 t1 : Value) (k : K) (w : World) : b_pages_Store_Put t0 t1 k w = bodyW Tryz.prog [(17, [76])] Tryz.f103 [t0, t1] k w := by kernel_rfl
/-- (*portage/pages.Store).Put -/
theorem b_pages_Store_Put_walk {t0 t1 : Value} {k : K} {w : World} (h : b_pages_Store_Put t0 t1 k w) : call Tryz.prog w 103 [t0, t1] k :=
  calls_of_body Tryz.func103 (b_pages_Store_Put_eq t0 t1 k w ▸ h) (Nat.le_of_ble_eq_true rfl)
/-! ### (*portage/pages.Store).Scrap -/
def b_pages_Store_Scrap (t0 t1 : Value) (k : K) (w : World) : Prop :=
  nn w t0 fun t9 w =>
  add w 2 t9 fun t10 w =>
  ld w t10 fun t11 w =>
  lkp w (.agg #[.int .i64 0, .slice none 0 0, .slice none 0 0, .int .i64 0, .int .i64 0]) true t11 t1 fun t13 w =>
  tup w 0 t13 fun t14 w =>
  tup w 1 t13 fun t15 w =>
  new w 121 #[.int .i64 0, .slice none 0 0, .slice none 0 0, .int .i64 0, .int .i64 0] fun t5 w =>
  st w 5 t5 t14 fun _ w =>
  un w .not t15 fun t18 w =>
  Br t18 (
    k (.iface 149 (.int .i64 81)) w
  ) (
    add w 3 t5 fun t21 w =>
    ld w t21 fun t22 w =>
    bin w .gtr t22 (.int .i64 0) fun t23 w =>
    Br t23 (
      k (.iface 149 (.int .i64 100)) w
    ) (
      call Tryz.prog w 125 [t0, t1] fun t27 w =>
      k .nilIface w
    )
  )
theorem b_pages_Store_Scrap_eq (t0 t1 : Value) (k : K) (w : World) : b_pages_Store_Scrap t0 t1 k w = bodyW Tryz.prog [] Tryz.f147 [t0, t1] k w := by kernel_rfl
/-- (*portage/pages.Store).Scrap -/
theorem b_pages_Store_Scrap_walk {t0 t1 : Value} {k : K} {w : World} (h : b_pages_Store_Scrap t0 t1 k w) : call Tryz.prog w 147 [t0, t1] k :=
  calls_of_body Tryz.func147 (b_pages_Store_Scrap_eq t0 t1 k w ▸ h) (Nat.le_of_ble_eq_true rfl)
/-! ### (*portage/pages.Store).add -/
def b_pages_Store_add (t0 t1 t2 : Value) (k : K) (w : World) : Prop :=
  nn w t0 fun t8 w =>
  add w 2 t8 fun t9 w =>
  ld w t9 fun t10 w =>
  lkp w (.agg #[.int .i64 0, .slice none 0 0, .slice none 0 0, .int .i64 0, .int .i64 0]) false t10 t1 fun t12 w =>
  new w 121 #[.int .i64 0, .slice none 0 0, .slice none 0 0, .int .i64 0, .int .i64 0] fun t6 w =>
  st w 5 t6 t12 fun _ w =>
  add w 3 t6 fun t13 w =>
  ld w t13 fun t14 w =>
  bin w .add t14 t2 fun t16 w =>
  add w 3 t6 fun t17 w =>
  st w 1 t17 t16 fun _ w =>
  drawS w fun S w =>
  nn w t0 fun t19 w =>
  add w 2 t19 fun t20 w =>
  held S w (fun w k => ld w t20 k) fun t21 w =>
  held S w (fun w k => ldN w 5 t6 k) fun t23 w =>
  mput w t21 t1 t23 fun _ w =>
  k (.tuple #[]) w
theorem b_pages_Store_add_eq (t0 t1 t2 : Value) (k : K) (w : World) : b_pages_Store_add t0 t1 t2 k w = bodyW Tryz.prog [] Tryz.f123 [t0, t1, t2] k w := by kernel_rfl
/-- (*portage/pages.Store).add -/
theorem b_pages_Store_add_walk {t0 t1 t2 : Value} {k : K} {w : World} (h : b_pages_Store_add t0 t1 t2 k w) : call Tryz.prog w 123 [t0, t1, t2] k :=
  calls_of_body Tryz.func123 (b_pages_Store_add_eq t0 t1 t2 k w ▸ h) (Nat.le_of_ble_eq_true rfl)
/-! ### (*portage/pages.Store).adopt -/
def b_pages_Store_adoptj1 (t0_1 t1_1 t2_1 t9_1 t10 : Value) (k : K) (w : World) : Prop :=
  eq w true true .iface t10 .nilIface fun t42 w =>
  Br t42 (
    k t10 w
  ) (
    nn w t2_1 fun t46 w =>
    ld w t46 fun t47 w =>
    bldS w 3 1 1 [.int .i64 0] [(0, t1_1)] fun t49 w =>
    app w 3 1 8 #[.int .i64 0] t47 t49 fun t50 w =>
    nn w t2_1 fun t51 w =>
    st w 1 t51 t50 fun _ w =>
    drawS w fun S w =>
    nn w t0_1 fun t53 w =>
    add w 2 t53 fun t54 w =>
    held S w (fun w k => ld w t54 k) fun t55 w =>
    held S w (fun w k => ldN w 3 t9_1 k) fun t57 w =>
    bld w #[(0, 3), (3, 1), (4, 1)] #[.int .i64 0, .slice none 0 0, .slice none 0 0, .int .i64 0, .int .i64 0] [(0, t57), (1, (.int .i64 1))] fun t58 w =>
    mput w t55 t1_1 t58 fun _ w =>
    ldN w 3 t9_1 fun t59 w =>
    call Tryz.prog w 161 [t59] fun t60 w =>
    len w t60 fun t61 w =>
    loop [(.int .i64 0)] w fun J1 s1 next1 w =>
    bin w .lss (at' s1 0) t61 fun t63 w =>
    Br t63 (
      idx w 1 t60 (at' s1 0) fun t64 w =>
      ld w t64 fun t65 w =>
      call Tryz.prog w 149 [t0_1, t65, t2_1] fun t69 w =>
      eq w true true .iface t69 .nilIface fun t71 w =>
      Br t71 (
        k t69 w
      ) (
        drawS w fun S w =>
        nn w t0_1 fun t74 w =>
        add w 2 t74 fun t75 w =>
        add w 0 t9_1 fun t81 w =>
        held S w (fun w k => ld w t75 k) fun t76 w =>
        held S w (fun w k => lkp w (.agg #[.int .i64 0, .slice none 0 0, .slice none 0 0, .int .i64 0, .int .i64 0]) false t76 t65 k) fun t78 w =>
        fld w (some 3) 0 t78 fun t79 w =>
        fld w none 0 t79 fun t80 w =>
        held S w (fun w k => ld w t81 k) fun t82 w =>
        bin w .sub t82 (.int .i64 1) fun t83 w =>
        bin w .neq t80 t83 fun t84 w =>
        Br t84 (
          k (.iface 149 (.int .i64 70)) w
        ) (
          bin w .add (at' s1 0) (.int .i64 1) fun t86 w =>
          next1 [t86] w
        )
      )
    ) (
      k .nilIface w
    )
  )
def b_pages_Store_adopt (t0 t1 t2 : Value) (k : K) (w : World) : Prop :=
  nn w t0 fun t16 w =>
  add w 2 t16 fun t17 w =>
  ld w t17 fun t18 w =>
  lkp w (.agg #[.int .i64 0, .slice none 0 0, .slice none 0 0, .int .i64 0, .int .i64 0]) true t18 t1 fun t20 w =>
  tup w 0 t20 fun t21 w =>
  tup w 1 t20 fun t22 w =>
  new w 121 #[.int .i64 0, .slice none 0 0, .slice none 0 0, .int .i64 0, .int .i64 0] fun t7 w =>
  st w 5 t7 t21 fun _ w =>
  Br t22 (
    call Tryz.prog w 123 [t0, t1, (.int .i64 1)] fun t26 w =>
    k .nilIface w
  ) (
    call Tryz.prog w 184 [t0, t1] fun t30 w =>
    tup w 0 t30 fun t31 w =>
    tup w 1 t30 fun t32 w =>
    new w 119 #[.int .i64 0, .slice none 0 0, .slice none 0 0] fun t9 w =>
    st w 3 t9 t31 fun _ w =>
    eq w false true .iface t32 .nilIface fun t34 w =>
    Br t34 (
      nn w t0 fun t36 w =>
      add w 1 t36 fun t37 w =>
      ld w t37 fun t38 w =>
      call Tryz.prog w 185 [t38, t1] fun t40 w =>
      b_pages_Store_adoptj1 t0 t1 t2 t9 t40 k w
    ) (
      b_pages_Store_adoptj1 t0 t1 t2 t9 t32 k w
    )
  )
theorem b_pages_Store_adopt_eq (t0 t1 t2 : Value) (k : K) (w : World) : b_pages_Store_adopt t0 t1 t2 k w = bodyW Tryz.prog [(13, [62])] Tryz.f149 [t0, t1, t2] k w := by kernel_rfl
/-- (*portage/pages.Store).adopt -/
theorem b_pages_Store_adopt_walk {t0 t1 t2 : Value} {k : K} {w : World} (h : b_pages_Store_adopt t0 t1 t2 k w) : call Tryz.prog w 149 [t0, t1, t2] k :=
  calls_of_body Tryz.func149 (b_pages_Store_adopt_eq t0 t1 t2 k w ▸ h) (Nat.le_of_ble_eq_true rfl)
/-! ### (*portage/pages.Store).gone -/
def b_pages_Store_gone (t0 t1 : Value) (k : K) (w : World) : Prop :=
  nn w t0 fun t8 w =>
  add w 2 t8 fun t9 w =>
  ld w t9 fun t10 w =>
  lkp w (.agg #[.int .i64 0, .slice none 0 0, .slice none 0 0, .int .i64 0, .int .i64 0]) false t10 t1 fun t12 w =>
  fld w (some 3) 0 t12 fun t13 w =>
  new w 119 #[.int .i64 0, .slice none 0 0, .slice none 0 0] fun t4 w =>
  st w 3 t4 t13 fun _ w =>
  nn w t0 fun t15 w =>
  add w 2 t15 fun t16 w =>
  ld w t16 fun t17 w =>
  mdel w t17 t1 fun _ w =>
  nn w t0 fun t20 w =>
  add w 1 t20 fun t21 w =>
  ld w t21 fun t22 w =>
  call Tryz.prog w 160 [t22, t1] fun t24 w =>
  ldN w 3 t4 fun t25 w =>
  call Tryz.prog w 161 [t25] fun t26 w =>
  len w t26 fun t27 w =>
  loop [(.int .i64 0)] w fun J1 s1 next1 w =>
  bin w .lss (at' s1 0) t27 fun t29 w =>
  Br t29 (
    idx w 1 t26 (at' s1 0) fun t30 w =>
    ld w t30 fun t31 w =>
    call Tryz.prog w 123 [t0, t31, (.int .i64 (-1))] fun t34 w =>
    nn w t0 fun t36 w =>
    add w 2 t36 fun t37 w =>
    ld w t37 fun t38 w =>
    lkp w (.agg #[.int .i64 0, .slice none 0 0, .slice none 0 0, .int .i64 0, .int .i64 0]) false t38 t31 fun t40 w =>
    fld w none 3 t40 fun t41 w =>
    bin w .eql t41 (.int .i64 0) fun t42 w =>
    Br t42 (
      call Tryz.prog w 125 [t0, t31] fun t45 w =>
      bin w .add (at' s1 0) (.int .i64 1) fun t46 w =>
      next1 [t46] w
    ) (
      bin w .add (at' s1 0) (.int .i64 1) fun t46_1 w =>
      next1 [t46_1] w
    )
  ) (
    k (.tuple #[]) w
  )
theorem b_pages_Store_gone_eq (t0 t1 : Value) (k : K) (w : World) : b_pages_Store_gone t0 t1 k w = bodyW Tryz.prog [(4, [28])] Tryz.f125 [t0, t1] k w := by kernel_rfl
/-- (*portage/pages.Store).gone -/
theorem b_pages_Store_gone_walk {t0 t1 : Value} {k : K} {w : World} (h : b_pages_Store_gone t0 t1 k w) : call Tryz.prog w 125 [t0, t1] k :=
  calls_of_body Tryz.func125 (b_pages_Store_gone_eq t0 t1 k w ▸ h) (Nat.le_of_ble_eq_true rfl)
/-! ### (*portage/pages.Store).named -/
def b_pages_Store_named (t0 t1 : Value) (k : K) (w : World) : Prop :=
  box w 28 t0 fun t2 w =>
  box w 119 t1 fun t3 w =>
  ldN w 3 t3 fun t9 w =>
  call Tryz.prog w 161 [t9] fun t10 w =>
  len w t10 fun t11 w =>
  loop [(.int .i64 0)] w fun J1 s1 next1 w =>
  bin w .lss (at' s1 0) t11 fun t13 w =>
  Br t13 (
    idx w 1 t10 (at' s1 0) fun t14 w =>
    ld w t14 fun t15 w =>
    ld w t2 fun t17 w =>
    nn w t17 fun t18 w =>
    add w 2 t18 fun t19 w =>
    ld w t19 fun t20 w =>
    lkp w (.agg #[.int .i64 0, .slice none 0 0, .slice none 0 0, .int .i64 0, .int .i64 0]) true t20 t15 fun t22 w =>
    tup w 0 t22 fun t23 w =>
    tup w 1 t22 fun t24 w =>
    new w 121 #[.int .i64 0, .slice none 0 0, .slice none 0 0, .int .i64 0, .int .i64 0] fun t7 w =>
    st w 5 t7 t23 fun _ w =>
    un w .not t24 fun t26 w =>
    Br t26 (
      k (.iface 149 (.int .i64 81)) w
    ) (
      bin w .add (at' s1 0) (.int .i64 1) fun t28 w =>
      next1 [t28] w
    )
  ) (
    ldN w 3 t3 fun t29 w =>
    call Tryz.prog w 161 [t29] fun t30 w =>
    call Tryz.prog w 193 [t30, (.func (.func 194) #[] #[t2, t3])] fun t32 w =>
    Br t32 (
      k (.iface 149 (.int .i64 70)) w
    ) (
      k .nilIface w
    )
  )
theorem b_pages_Store_named_eq (t0 t1 : Value) (k : K) (w : World) : b_pages_Store_named t0 t1 k w = bodyW Tryz.prog [(2, [12])] Tryz.f157 [t0, t1] k w := by kernel_rfl
/-- (*portage/pages.Store).named -/
theorem b_pages_Store_named_walk {t0 t1 : Value} {k : K} {w : World} (h : b_pages_Store_named t0 t1 k w) : call Tryz.prog w 157 [t0, t1] k :=
  calls_of_body Tryz.func157 (b_pages_Store_named_eq t0 t1 k w ▸ h) (Nat.le_of_ble_eq_true rfl)
/-! ### (*portage/pages.Store).named$1 -/
def b_pages_Store_named_c1 (t0 t1 t2 : Value) (k : K) (w : World) : Prop :=
  drawS w fun S w =>
  add w 0 t2 fun t13 w =>
  held S w (fun w k => ld w t1 k) fun t5 w =>
  nn w t5 fun t6 w =>
  add w 2 t6 fun t7 w =>
  held S w (fun w k => ld w t7 k) fun t8 w =>
  held S w (fun w k => lkp w (.agg #[.int .i64 0, .slice none 0 0, .slice none 0 0, .int .i64 0, .int .i64 0]) false t8 t0 k) fun t10 w =>
  fld w (some 3) 0 t10 fun t11 w =>
  fld w none 0 t11 fun t12 w =>
  held S w (fun w k => ld w t13 k) fun t14 w =>
  bin w .sub t14 (.int .i64 1) fun t15 w =>
  bin w .neq t12 t15 fun t16 w =>
  k t16 w
theorem b_pages_Store_named_c1_eq (t0 t1 t2 : Value) (k : K) (w : World) : b_pages_Store_named_c1 t0 t1 t2 k w = bodyW Tryz.prog [] Tryz.f194 [t0, t1, t2] k w := by kernel_rfl
/-- (*portage/pages.Store).named$1 -/
theorem b_pages_Store_named_c1_walk {t0 t1 t2 : Value} {k : K} {w : World} (h : b_pages_Store_named_c1 t0 t1 t2 k w) : call Tryz.prog w 194 [t0, t1, t2] k :=
  calls_of_body Tryz.func194 (b_pages_Store_named_c1_eq t0 t1 t2 k w ▸ h) (Nat.le_of_ble_eq_true rfl)
/-! ### (*portage/pages.Store).own -/
def b_pages_Store_own (t0 t1 t2 : Value) (k : K) (w : World) : Prop :=
  nn w t0 fun t8 w =>
  add w 2 t8 fun t9 w =>
  ld w t9 fun t10 w =>
  lkp w (.agg #[.int .i64 0, .slice none 0 0, .slice none 0 0, .int .i64 0, .int .i64 0]) false t10 t1 fun t12 w =>
  new w 121 #[.int .i64 0, .slice none 0 0, .slice none 0 0, .int .i64 0, .int .i64 0] fun t6 w =>
  st w 5 t6 t12 fun _ w =>
  add w 4 t6 fun t13 w =>
  ld w t13 fun t14 w =>
  bin w .add t14 t2 fun t16 w =>
  add w 4 t6 fun t17 w =>
  st w 1 t17 t16 fun _ w =>
  drawS w fun S w =>
  nn w t0 fun t19 w =>
  add w 2 t19 fun t20 w =>
  held S w (fun w k => ld w t20 k) fun t21 w =>
  held S w (fun w k => ldN w 5 t6 k) fun t23 w =>
  mput w t21 t1 t23 fun _ w =>
  k (.tuple #[]) w
theorem b_pages_Store_own_eq (t0 t1 t2 : Value) (k : K) (w : World) : b_pages_Store_own t0 t1 t2 k w = bodyW Tryz.prog [] Tryz.f124 [t0, t1, t2] k w := by kernel_rfl
/-- (*portage/pages.Store).own -/
theorem b_pages_Store_own_walk {t0 t1 t2 : Value} {k : K} {w : World} (h : b_pages_Store_own t0 t1 t2 k w) : call Tryz.prog w 124 [t0, t1, t2] k :=
  calls_of_body Tryz.func124 (b_pages_Store_own_eq t0 t1 t2 k w ▸ h) (Nat.le_of_ble_eq_true rfl)
/-! ### (*portage/pages.Store).read -/
def b_pages_Store_read (t0 t1 : Value) (k : K) (w : World) : Prop :=
  new w 119 #[.int .i64 0, .slice none 0 0, .slice none 0 0] fun t4 w =>
  call Tryz.prog w 30 [t1] fun t13 w =>
  tup w 0 t13 fun t14 w =>
  tup w 1 t13 fun t15 w =>
  nn w t0 fun t18 w =>
  add w 0 t18 fun t19 w =>
  ld w t19 fun t20 w =>
  call Tryz.prog w 219 [t20, t14, t15] fun t23 w =>
  tup w 0 t23 fun t24 w =>
  tup w 1 t23 fun t25 w =>
  eq w true true .iface t25 .nilIface fun t27 w =>
  Br t27 (
    bld w #[(0, 1), (1, 1), (2, 1)] #[.int .i64 0, .slice none 0 0, .slice none 0 0] [] fun t28 w =>
    call Tryz.prog w 107 [(.string ⟨#[112, 97, 103, 101]⟩), t14, t15, t25] fun t32 w =>
    st w 3 t4 t28 fun _ w =>
    ldN w 3 t4 fun t100004 w =>
    k (.tuple #[t100004, t32]) w
  ) (
    call Tryz.prog w 220 [t24] fun t35 w =>
    tup w 0 t35 fun t36 w =>
    tup w 1 t35 fun t37 w =>
    new w 119 #[.int .i64 0, .slice none 0 0, .slice none 0 0] fun t10 w =>
    st w 3 t10 t36 fun _ w =>
    drawS w fun S w =>
    held S w (fun w k => ldN w 3 t10 k) fun t38 w =>
    call Tryz.prog w 107 [(.string ⟨#[112, 97, 103, 101]⟩), t14, t15, t37] fun t42 w =>
    S w ∧
    st w 3 t4 t38 fun _ w =>
    ldN w 3 t4 fun t100004_1 w =>
    k (.tuple #[t100004_1, t42]) w
  )
theorem b_pages_Store_read_eq (t0 t1 : Value) (k : K) (w : World) : b_pages_Store_read t0 t1 k w = bodyW Tryz.prog [] Tryz.f184 [t0, t1] k w := by kernel_rfl
/-- (*portage/pages.Store).read -/
theorem b_pages_Store_read_walk {t0 t1 : Value} {k : K} {w : World} (h : b_pages_Store_read t0 t1 k w) : call Tryz.prog w 184 [t0, t1] k :=
  calls_of_body Tryz.func184 (b_pages_Store_read_eq t0 t1 k w ▸ h) (Nat.le_of_ble_eq_true rfl)
/-! ### portage/pages.copied -/
def b_pages_copied (t0 : Value) (k : K) (w : World) : Prop :=
  box w 119 t0 fun t1 w =>
  new w 119 #[.int .i64 0, .slice none 0 0, .slice none 0 0] fun t2 w =>
  drawS w fun S w =>
  add w 0 t1 fun t3 w =>
  add w 1 t1 fun t5 w =>
  add w 2 t1 fun t8 w =>
  held S w (fun w k => ld w t3 k) fun t4 w =>
  held S w (fun w k => ld w t5 k) fun t6 w =>
  held S w (fun w k => ld w t8 k) fun t9 w =>
  call Tryz.prog w 180 [t6] fun t7 w =>
  S w ∧
  call Tryz.prog w 180 [t9] fun t10 w =>
  S w ∧
  bld w #[(0, 1), (1, 1), (2, 1)] #[.int .i64 0, .slice none 0 0, .slice none 0 0] [(0, t4), (1, t7), (2, t10)] fun t11 w =>
  st w 3 t2 t11 fun _ w =>
  ldN w 3 t2 fun t100002 w =>
  k t100002 w
theorem b_pages_copied_eq (t0 : Value) (k : K) (w : World) : b_pages_copied t0 k w = bodyW Tryz.prog [] Tryz.f129 [t0] k w := by kernel_rfl
/-- portage/pages.copied -/
theorem b_pages_copied_walk {t0 : Value} {k : K} {w : World} (h : b_pages_copied t0 k w) : call Tryz.prog w 129 [t0] k :=
  calls_of_body Tryz.func129 (b_pages_copied_eq t0 k w ▸ h) (Nat.le_of_ble_eq_true rfl)
/-! ### portage/pages.kids -/
def b_pages_kids (t0 : Value) (k : K) (w : World) : Prop :=
  box w 119 t0 fun t1 w =>
  add w 0 t1 fun t3 w =>
  ld w t3 fun t4 w =>
  bin w .eql t4 (.int .i64 0) fun t5 w =>
  Br t5 (
    k (.slice none 0 0) w
  ) (
    add w 2 t1 fun t6 w =>
    ld w t6 fun t7 w =>
    k t7 w
  )
theorem b_pages_kids_eq (t0 : Value) (k : K) (w : World) : b_pages_kids t0 k w = bodyW Tryz.prog [] Tryz.f161 [t0] k w := by kernel_rfl
/-- portage/pages.kids -/
theorem b_pages_kids_walk {t0 : Value} {k : K} {w : World} (h : b_pages_kids t0 k w) : call Tryz.prog w 161 [t0] k :=
  calls_of_body Tryz.func161 (b_pages_kids_eq t0 k w ▸ h) (Nat.le_of_ble_eq_true rfl)
end Go.Proofs.YtemenmmekddjaaaGreatDoor
