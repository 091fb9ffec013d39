/- The bodies of functions, written out by program from the loaded translation; each is held against it by the kernel. No condition. -/
import Derived.Test.YtemenmmekddjaaaGreatDoorProg
import Derived.KernelRfl
import Derived.Test.YtemenmmekddjaaaGreatDoorJ03
set_option linter.all false
set_option linter.unusedVariables false
set_option linter.unusedSimpArgs false
set_option linter.unnecessarySimpa false
set_option linter.unusedSectionVars false
set_option linter.constructorNameAsVariable false
namespace Go.Proofs.YtemenmmekddjaaaGreatDoor
open Go Go.Wx Go.W
set_option maxRecDepth 100000
set_option linter.unusedVariables false
/-! ### portage/btree.Check -/
def b_btree_Check (t0 t1 : Value) (k : K) (w : World) : Prop :=
  bin w .eql t1 (.int .i64 0) fun t15 w =>
  Br t15 (
    k .nilIface w
  ) (
    call Tryz.prog w 79 [t0, t1] fun t19 w =>
    tup w 0 t19 fun t20 w =>
    tup w 1 t19 fun t21 w =>
    new w 119 #[.int .i64 0, .slice none 0 0, .slice none 0 0] fun t5 w =>
    st w 3 t5 t20 fun _ w =>
    eq w true true .iface t21 .nilIface fun t23 w =>
    Br t23 (
      k (.iface 149 (.int .i64 81)) w
    ) (
      add w 0 t5 fun t25 w =>
      ld w t25 fun t26 w =>
      bin w .eql t26 (.int .i64 0) fun t27 w =>
      Br t27 (
        k .nilIface w
      ) (
        add w 1 t5 fun t28 w =>
        ld w t28 fun t29 w =>
        len w t29 fun t30 w =>
        loop [(.int .i64 (-1)), (.int .i64 0)] w fun J1 s1 next1 w =>
        bin w .lss (at' s1 1) t30 fun t32 w =>
        Br t32 (
          idx w 1 t29 (at' s1 1) fun t34 w =>
          ld w t34 fun t35 w =>
          add w 2 t5 fun t37 w =>
          ld w t37 fun t38 w =>
          idx w 1 t38 (at' s1 1) fun t40 w =>
          ld w t40 fun t41 w =>
          call Tryz.prog w 76 [t0, t41] fun t42 w =>
          eq w true true .iface t42 .nilIface fun t44 w =>
          Br t44 (
            k t42 w
          ) (
            add w 2 t5 fun t48 w =>
            ld w t48 fun t49 w =>
            idx w 1 t49 (at' s1 1) fun t51 w =>
            ld w t51 fun t52 w =>
            call Tryz.prog w 79 [t0, t52] fun t53 w =>
            tup w 0 t53 fun t54 w =>
            tup w 1 t53 fun t55 w =>
            new w 119 #[.int .i64 0, .slice none 0 0, .slice none 0 0] fun t11 w =>
            st w 3 t11 t54 fun _ w =>
            add w 2 t5 fun t57 w =>
            ld w t57 fun t58 w =>
            idx w 1 t58 (at' s1 1) fun t60 w =>
            ld w t60 fun t61 w =>
            call Tryz.prog w 75 [t0, t61, (.int .i64 0), (.int .i64 (-1))] fun t62 w =>
            len w t62 fun t64 w =>
            bin w .eql t64 (.int .i64 0) fun t65 w =>
            Br t65 (
              k (.iface 149 (.int .i64 70)) w
            ) (
              idx w 2 t62 (.int .i64 0) fun t68 w =>
              add w 0 t68 fun t69 w =>
              ld w t69 fun t70 w =>
              bin w .neq t70 t35 fun t72 w =>
              Br t72 (
                k (.iface 149 (.int .i64 70)) w
              ) (
                bin w .leq t35 (at' s1 0) fun t77 w =>
                Br t77 (
                  k (.iface 149 (.int .i64 70)) w
                ) (
                  add w 0 t11 fun t80 w =>
                  ld w t80 fun t81 w =>
                  add w 0 t5 fun t82 w =>
                  ld w t82 fun t83 w =>
                  bin w .sub t83 (.int .i64 1) fun t84 w =>
                  bin w .neq t81 t84 fun t85 w =>
                  Br t85 (
                    k (.iface 149 (.int .i64 70)) w
                  ) (
                    len w t62 fun t90 w =>
                    bin w .sub t90 (.int .i64 1) fun t91 w =>
                    idx w 2 t62 t91 fun t92 w =>
                    add w 0 t92 fun t93 w =>
                    ld w t93 fun t94 w =>
                    bin w .add (at' s1 1) (.int .i64 1) fun t95 w =>
                    next1 [t94, t95] w
                  )
                )
              )
            )
          )
        ) (
          k .nilIface w
        )
      )
    )
  )
theorem b_btree_Check_eq (t0 t1 : Value) (k : K) (w : World) : b_btree_Check t0 t1 k w = bodyW Tryz.prog [(10, [7, 31])] Tryz.f76 [t0, t1] k w := by kernel_rfl
/-- portage/btree.Check -/
theorem b_btree_Check_walk {t0 t1 : Value} {k : K} {w : World} (h : b_btree_Check t0 t1 k w) : call Tryz.prog w 76 [t0, t1] k :=
  calls_of_body Tryz.func76 (b_btree_Check_eq t0 t1 k w ▸ h) (Nat.le_of_ble_eq_true rfl)
/-! ### portage/btree.Count -/
def b_btree_Count (t0 t1 : Value) (k : K) (w : World) : Prop :=
  call Tryz.prog w 75 [t0, t1, (.int .i64 0), (.int .i64 (-1))] fun t7 w =>
  len w t7 fun t8 w =>
  k t8 w
theorem b_btree_Count_eq (t0 t1 : Value) (k : K) (w : World) : b_btree_Count t0 t1 k w = bodyW Tryz.prog [] Tryz.f77 [t0, t1] k w := by kernel_rfl
/-- portage/btree.Count -/
theorem b_btree_Count_walk {t0 t1 : Value} {k : K} {w : World} (h : b_btree_Count t0 t1 k w) : call Tryz.prog w 77 [t0, t1] k :=
  calls_of_body Tryz.func77 (b_btree_Count_eq t0 t1 k w ▸ h) (Nat.le_of_ble_eq_true rfl)
/-! ### portage/btree.Delete -/
def b_btree_Delete (t0 t1 t2 : Value) (k : K) (w : World) : Prop :=
  box w 3 t2 fun t5 w =>
  ld w t5 fun t13 w =>
  call Tryz.prog w 62 [t0, t1, t13] fun t14 w =>
  tup w 0 t14 fun t15 w =>
  tup w 1 t14 fun t16 w =>
  un w .not t16 fun t18 w =>
  Br t18 (
    k (.tuple #[(.int .i64 0), (.iface 149 (.int .i64 81))]) w
  ) (
    ld w t5 fun t22 w =>
    call Tryz.prog w 104 [t0, t1, t22, (.func (.func 121) #[] #[t5])] fun t24 w =>
    tup w 0 t24 fun t25 w =>
    tup w 1 t24 fun t26 w =>
    k (.tuple #[t25, t26]) w
  )
theorem b_btree_Delete_eq (t0 t1 t2 : Value) (k : K) (w : World) : b_btree_Delete t0 t1 t2 k w = bodyW Tryz.prog [] Tryz.f69 [t0, t1, t2] k w := by kernel_rfl
/-- portage/btree.Delete -/
theorem b_btree_Delete_walk {t0 t1 t2 : Value} {k : K} {w : World} (h : b_btree_Delete t0 t1 t2 k w) : call Tryz.prog w 69 [t0, t1, t2] k :=
  calls_of_body Tryz.func69 (b_btree_Delete_eq t0 t1 t2 k w ▸ h) (Nat.le_of_ble_eq_true rfl)
/-! ### portage/btree.Delete$1 -/
def b_btree_Delete_c1 (t0 t1 : Value) (k : K) (w : World) : Prop :=
  box w 119 t0 fun t2 w =>
  ldN w 3 t2 fun t7 w =>
  ld w t1 fun t8 w =>
  call Tryz.prog w 122 [t7, t8] fun t9 w =>
  tup w 0 t9 fun t10 w =>
  tup w 1 t9 fun t11 w =>
  st w 3 t2 t10 fun _ w =>
  eq w true true .iface t11 .nilIface fun t13 w =>
  Br t13 (
    k (.tuple #[(.slice none 0 0), t11]) w
  ) (
    add w 1 t2 fun t15 w =>
    ld w t15 fun t16 w =>
    len w t16 fun t17 w =>
    bin w .eql t17 (.int .i64 0) fun t18 w =>
    Br t18 (
      k (.tuple #[(.slice none 0 0), t11]) w
    ) (
      ldN w 3 t2 fun t21 w =>
      bldS w 119 1 3 [.int .i64 0, .slice none 0 0, .slice none 0 0] [(0, t21)] fun t22 w =>
      k (.tuple #[t22, .nilIface]) w
    )
  )
theorem b_btree_Delete_c1_eq (t0 t1 : Value) (k : K) (w : World) : b_btree_Delete_c1 t0 t1 k w = bodyW Tryz.prog [] Tryz.f121 [t0, t1] k w := by kernel_rfl
/-- portage/btree.Delete$1 -/
theorem b_btree_Delete_c1_walk {t0 t1 : Value} {k : K} {w : World} (h : b_btree_Delete_c1 t0 t1 k w) : call Tryz.prog w 121 [t0, t1] k :=
  calls_of_body Tryz.func121 (b_btree_Delete_c1_eq t0 t1 k w ▸ h) (Nat.le_of_ble_eq_true rfl)
/-! ### portage/btree.Find -/
def b_btree_Find (t0 t1 t2 : Value) (k : K) (w : World) : Prop :=
  jump (fun next1 =>
    call Tryz.prog w 79 [t0, t1] fun t17 w =>
    tup w 0 t17 fun t18 w =>
    tup w 1 t17 fun t19 w =>
    new w 119 #[.int .i64 0, .slice none 0 0, .slice none 0 0] fun t9 w =>
    st w 3 t9 t18 fun _ w =>
    ldN w 3 t9 fun t21 w =>
    call Tryz.prog w 114 [t21, t2] fun t23 w =>
    tup w 0 t23 fun t24 w =>
    tup w 1 t23 fun t25 w =>
    eq w true true .iface t19 .nilIface fun t28 w =>
    Br t28 (
      k (.tuple #[(.int .i64 0), (.bool false)]) w
    ) (
      bin w .lss t24 (.int .i64 0) fun t31 w =>
      Br t31 (
        k (.tuple #[(.int .i64 0), (.bool false)]) w
      ) (
        add w 0 t9 fun t34 w =>
        ld w t34 fun t35 w =>
        bin w .gtr t35 (.int .i64 0) fun t36 w =>
        Br t36 (
          add w 2 t9 fun t37 w =>
          ld w t37 fun t38 w =>
          idx w 1 t38 t24 fun t40 w =>
          ld w t40 fun t41 w =>
          next1 [t41] w
        ) (
          un w .not t25 fun t44 w =>
          Br t44 (
            k (.tuple #[(.int .i64 0), (.bool false)]) w
          ) (
            add w 2 t9 fun t45 w =>
            ld w t45 fun t46 w =>
            idx w 1 t46 t24 fun t48 w =>
            ld w t48 fun t49 w =>
            k (.tuple #[t49, (.bool true)]) w
          )
        )
      )
    )
  ) fun J1 s1 next1 w =>
  call Tryz.prog w 79 [t0, (at' s1 0)] fun t17_1 w =>
  tup w 0 t17_1 fun t18_1 w =>
  tup w 1 t17_1 fun t19_1 w =>
  new w 119 #[.int .i64 0, .slice none 0 0, .slice none 0 0] fun t9_1 w =>
  st w 3 t9_1 t18_1 fun _ w =>
  ldN w 3 t9_1 fun t21_1 w =>
  call Tryz.prog w 114 [t21_1, t2] fun t23_1 w =>
  tup w 0 t23_1 fun t24_1 w =>
  tup w 1 t23_1 fun t25_1 w =>
  eq w true true .iface t19_1 .nilIface fun t28_1 w =>
  Br t28_1 (
    k (.tuple #[(.int .i64 0), (.bool false)]) w
  ) (
    bin w .lss t24_1 (.int .i64 0) fun t31_1 w =>
    Br t31_1 (
      k (.tuple #[(.int .i64 0), (.bool false)]) w
    ) (
      add w 0 t9_1 fun t34_1 w =>
      ld w t34_1 fun t35_1 w =>
      bin w .gtr t35_1 (.int .i64 0) fun t36_1 w =>
      Br t36_1 (
        add w 2 t9_1 fun t37_1 w =>
        ld w t37_1 fun t38_1 w =>
        idx w 1 t38_1 t24_1 fun t40_1 w =>
        ld w t40_1 fun t41_1 w =>
        next1 [t41_1] w
      ) (
        un w .not t25_1 fun t44_1 w =>
        Br t44_1 (
          k (.tuple #[(.int .i64 0), (.bool false)]) w
        ) (
          add w 2 t9_1 fun t45_1 w =>
          ld w t45_1 fun t46_1 w =>
          idx w 1 t46_1 t24_1 fun t48_1 w =>
          ld w t48_1 fun t49_1 w =>
          k (.tuple #[t49_1, (.bool true)]) w
        )
      )
    )
  )
theorem b_btree_Find_eq (t0 t1 t2 : Value) (k : K) (w : World) : b_btree_Find t0 t1 t2 k w = bodyW Tryz.prog [(1, [8])] Tryz.f62 [t0, t1, t2] k w := by kernel_rfl
/-- portage/btree.Find -/
theorem b_btree_Find_walk {t0 t1 t2 : Value} {k : K} {w : World} (h : b_btree_Find t0 t1 t2 k w) : call Tryz.prog w 62 [t0, t1, t2] k :=
  calls_of_body Tryz.func62 (b_btree_Find_eq t0 t1 t2 k w ▸ h) (Nat.le_of_ble_eq_true rfl)
/-! ### portage/btree.Items -/
def b_btree_Items (t0 t1 t2 t3 : Value) (k : K) (w : World) : Prop :=
  box w 3 t3 fun t7 w =>
  new w 135 #[.slice none 0 0] fun t9 w =>
  ld w t7 fun t10 w =>
  bin w .eql t10 (.int .i64 0) fun t11 w =>
  Br t11 (
    k (.slice none 0 0) w
  ) (
    call Tryz.prog w 126 [t0, t1, t2, (.func (.func 127) #[] #[t9, t7])] fun t16 w =>
    ld w t9 fun t17 w =>
    k t17 w
  )
theorem b_btree_Items_eq (t0 t1 t2 t3 : Value) (k : K) (w : World) : b_btree_Items t0 t1 t2 t3 k w = bodyW Tryz.prog [] Tryz.f75 [t0, t1, t2, t3] k w := by kernel_rfl
/-- portage/btree.Items -/
theorem b_btree_Items_walk {t0 t1 t2 t3 : Value} {k : K} {w : World} (h : b_btree_Items t0 t1 t2 t3 k w) : call Tryz.prog w 75 [t0, t1, t2, t3] k :=
  calls_of_body Tryz.func75 (b_btree_Items_eq t0 t1 t2 t3 k w ▸ h) (Nat.le_of_ble_eq_true rfl)
/-! ### portage/btree.Items$1 -/
def b_btree_Items_c1 (t0 t1 t2 : Value) (k : K) (w : World) : Prop :=
  box w 151 t0 fun t3 w =>
  ld w t1 fun t5 w =>
  ldN w 2 t3 fun t6 w =>
  bldS w 151 1 2 [.int .i64 0, .int .i64 0] [(0, t6)] fun t7 w =>
  app w 151 2 16 #[.int .i64 0, .int .i64 0] t5 t7 fun t8 w =>
  st w 1 t1 t8 fun _ w =>
  ld w t1 fun t9 w =>
  len w t9 fun t10 w =>
  ld w t2 fun t11 w =>
  bin w .neq t10 t11 fun t12 w =>
  k t12 w
theorem b_btree_Items_c1_eq (t0 t1 t2 : Value) (k : K) (w : World) : b_btree_Items_c1 t0 t1 t2 k w = bodyW Tryz.prog [] Tryz.f127 [t0, t1, t2] k w := by kernel_rfl
/-- portage/btree.Items$1 -/
theorem b_btree_Items_c1_walk {t0 t1 t2 : Value} {k : K} {w : World} (h : b_btree_Items_c1 t0 t1 t2 k w) : call Tryz.prog w 127 [t0, t1, t2] k :=
  calls_of_body Tryz.func127 (b_btree_Items_c1_eq t0 t1 t2 k w ▸ h) (Nat.le_of_ble_eq_true rfl)
/-! ### portage/btree.Pages -/
def b_btree_Pages (t0 t1 : Value) (k : K) (w : World) : Prop :=
  nmap w fun t8 w =>
  call Tryz.prog w 128 [t0, t1, t8] fun t12 w =>
  raw Tryz.prog w (Instr.range 63 t8) fun t14 w =>
  loop [(.slice none 0 0)] w fun J1 s1 next1 w =>
  raw Tryz.prog w (Instr.next t14 false 0) fun t15 w =>
  tup w 0 t15 fun t16 w =>
  Br t16 (
    raw Tryz.prog w (Instr.entry t14) fun t17 w =>
    tup w 0 t17 fun t18 w =>
    bldS w 3 1 1 [.int .i64 0] [(0, t18)] fun t21 w =>
    app w 3 1 8 #[.int .i64 0] (at' s1 0) t21 fun t22 w =>
    next1 [t22] w
  ) (
    call Tryz.prog w 116 [(at' s1 0)] fun t24 w =>
    k (at' s1 0) w
  )
theorem b_btree_Pages_eq (t0 t1 : Value) (k : K) (w : World) : b_btree_Pages t0 t1 k w = bodyW Tryz.prog [(5, [6])] Tryz.f78 [t0, t1] k w := by kernel_rfl
/-- portage/btree.Pages -/
theorem b_btree_Pages_walk {t0 t1 : Value} {k : K} {w : World} (h : b_btree_Pages t0 t1 k w) : call Tryz.prog w 78 [t0, t1] k :=
  calls_of_body Tryz.func78 (b_btree_Pages_eq t0 t1 k w ▸ h) (Nat.le_of_ble_eq_true rfl)
/-! ### portage/btree.Set -/
def b_btree_Set (t0 t1 t2 t3 : Value) (k : K) (w : World) : Prop :=
  box w 3 t2 fun t6 w =>
  box w 3 t3 fun t7 w =>
  ld w t6 fun t13 w =>
  bldS w 3 1 1 [.int .i64 0] [(0, t13)] fun t14 w =>
  ld w t7 fun t15 w =>
  bldS w 3 1 1 [.int .i64 0] [(0, t15)] fun t16 w =>
  bld w #[(0, 1), (1, 1), (2, 1)] #[.int .i64 0, .slice none 0 0, .slice none 0 0] [(1, t14), (2, t16)] fun t17 w =>
  new w 119 #[.int .i64 0, .slice none 0 0, .slice none 0 0] fun t10 w =>
  st w 3 t10 t17 fun _ w =>
  ldN w 3 t10 fun t18 w =>
  call Tryz.prog w 102 [t18] fun t19 w =>
  eq w true true .iface t19 .nilIface fun t20 w =>
  Br t20 (
    k (.tuple #[(.int .i64 0), (.iface 149 (.int .i64 80))]) w
  ) (
    bin w .eql t1 (.int .i64 0) fun t23 w =>
    Br t23 (
      ldN w 3 t10 fun t26 w =>
      call Tryz.prog w 103 [t0, t26] fun t27 w =>
      tup w 0 t27 fun t28 w =>
      tup w 1 t27 fun t29 w =>
      eq w true true .iface t29 .nilIface fun t31 w =>
      Br t31 (
        k (.tuple #[(.int .i64 0), t29]) w
      ) (
        call Tryz.prog w 72 [t0, t28] fun t36 w =>
        k (.tuple #[t28, t36]) w
      )
    ) (
      ld w t6 fun t39 w =>
      call Tryz.prog w 104 [t0, t1, t39, (.func (.func 105) #[] #[t6, t7])] fun t41 w =>
      tup w 0 t41 fun t42 w =>
      tup w 1 t41 fun t43 w =>
      k (.tuple #[t42, t43]) w
    )
  )
theorem b_btree_Set_eq (t0 t1 t2 t3 : Value) (k : K) (w : World) : b_btree_Set t0 t1 t2 t3 k w = bodyW Tryz.prog [] Tryz.f36 [t0, t1, t2, t3] k w := by kernel_rfl
/-- portage/btree.Set -/
theorem b_btree_Set_walk {t0 t1 t2 t3 : Value} {k : K} {w : World} (h : b_btree_Set t0 t1 t2 t3 k w) : call Tryz.prog w 36 [t0, t1, t2, t3] k :=
  calls_of_body Tryz.func36 (b_btree_Set_eq t0 t1 t2 t3 k w ▸ h) (Nat.le_of_ble_eq_true rfl)
/-! ### portage/btree.Set$1 -/
def b_btree_Set_c1 (t0 t1 t2 : Value) (k : K) (w : World) : Prop :=
  box w 119 t0 fun t3 w =>
  ldN w 3 t3 fun t6 w =>
  ld w t1 fun t7 w =>
  ld w t2 fun t8 w =>
  call Tryz.prog w 106 [t6, t7, t8] fun t9 w =>
  tup w 0 t9 fun t10 w =>
  tup w 1 t9 fun t11 w =>
  k (.tuple #[t10, t11]) w
theorem b_btree_Set_c1_eq (t0 t1 t2 : Value) (k : K) (w : World) : b_btree_Set_c1 t0 t1 t2 k w = bodyW Tryz.prog [] Tryz.f105 [t0, t1, t2] k w := by kernel_rfl
/-- portage/btree.Set$1 -/
theorem b_btree_Set_c1_walk {t0 t1 t2 : Value} {k : K} {w : World} (h : b_btree_Set_c1 t0 t1 t2 k w) : call Tryz.prog w 105 [t0, t1, t2] k :=
  calls_of_body Tryz.func105 (b_btree_Set_c1_eq t0 t1 t2 k w ▸ h) (Nat.le_of_ble_eq_true rfl)
/-! ### portage/btree.Swap -/
def b_btree_Swap (t0 t1 t2 t3 t4 : Value) (k : K) (w : World) : Prop :=
  bin w .eql t1 (.int .i64 0) fun t16 w =>
  Br t16 (
    k (.tuple #[(.int .i64 0), .nilIface]) w
  ) (
    bld w #[(0, 1), (1, 1)] #[.pointer none, .slice none 0 0] [(0, t0)] fun t18 w =>
    box w 166 t18 fun t19 w =>
    new w 164 #[.pointer none] fun t12 w =>
    st w 1 t12 t19 fun _ w =>
    ld w t12 fun t21 w =>
    call Tryz.prog w 93 [t21, t1, t2, t3, t4] fun t26 w =>
    tup w 0 t26 fun t27 w =>
    tup w 1 t26 fun t28 w =>
    eq w true true .iface t28 .nilIface fun t30 w =>
    Br t30 (
      call Tryz.prog w 94 [t3, (.func (.func 95) #[] #[t12])] fun t33 w =>
      ld w t12 fun t34 w =>
      call Tryz.prog w 97 [t34] fun t35 w =>
      k (.tuple #[(.int .i64 0), t28]) w
    ) (
      bin w .neq t27 t1 fun t39 w =>
      Br t39 (
        call Tryz.prog w 72 [t0, t27] fun t42 w =>
        call Tryz.prog w 73 [t0, t1] fun t45 w =>
        k (.tuple #[t27, .nilIface]) w
      ) (
        k (.tuple #[t27, .nilIface]) w
      )
    )
  )
theorem b_btree_Swap_eq (t0 t1 t2 t3 t4 : Value) (k : K) (w : World) : b_btree_Swap t0 t1 t2 t3 t4 k w = bodyW Tryz.prog [] Tryz.f28 [t0, t1, t2, t3, t4] k w := by kernel_rfl
/-- portage/btree.Swap -/
theorem b_btree_Swap_walk {t0 t1 t2 t3 t4 : Value} {k : K} {w : World} (h : b_btree_Swap t0 t1 t2 t3 t4 k w) : call Tryz.prog w 28 [t0, t1, t2, t3, t4] k :=
  calls_of_body Tryz.func28 (b_btree_Swap_eq t0 t1 t2 t3 t4 k w ▸ h) (Nat.le_of_ble_eq_true rfl)
/-! ### portage/btree.Swap$1 -/
def b_btree_Swap_c1 (t0 t1 t2 : Value) (k : K) (w : World) : Prop :=
  ld w t2 fun t6 w =>
  nn w t6 fun t7 w =>
  add w 1 t7 fun t8 w =>
  ld w t8 fun t9 w =>
  call Tryz.prog w 96 [t9, t1] fun t11 w =>
  k t11 w
theorem b_btree_Swap_c1_eq (t0 t1 t2 : Value) (k : K) (w : World) : b_btree_Swap_c1 t0 t1 t2 k w = bodyW Tryz.prog [] Tryz.f95 [t0, t1, t2] k w := by kernel_rfl
/-- portage/btree.Swap$1 -/
theorem b_btree_Swap_c1_walk {t0 t1 t2 : Value} {k : K} {w : World} (h : b_btree_Swap_c1 t0 t1 t2 k w) : call Tryz.prog w 95 [t0, t1, t2] k :=
  calls_of_body Tryz.func95 (b_btree_Swap_c1_eq t0 t1 t2 k w ▸ h) (Nat.le_of_ble_eq_true rfl)
/-! ### (*portage/btree.change).done -/
def b_btree_change_donej2 (t0_2 t1_2 t15 : Value) (next1 : List Value → World → Prop) (k : K) (w : World) : Prop :=
  bin w .neq t1_2 (.int .i64 0) fun t84 w =>
  Br t84 (
    nn w t0_2 fun t86 w =>
    add w 0 t86 fun t87 w =>
    ld w t87 fun t88 w =>
    call Tryz.prog w 73 [t88, t1_2] fun t90 w =>
    k (.tuple #[t15, .nilIface]) w
  ) (
    k (.tuple #[t15, .nilIface]) w
  )
def b_btree_change_donej1 (t0_1 t1_1 t2_1 t8 : Value) (k : K) (w : World) : Prop :=
  loop [t2_1] w fun J1 s1 next1 w =>
  len w (at' s1 0) fun t35 w =>
  bin w .gtr t35 (.int .i64 1) fun t36 w =>
  Br t36 (
    bld w #[(0, 1), (1, 1), (2, 1)] #[.int .i64 0, .slice none 0 0, .slice none 0 0] [(0, t8)] fun t38 w =>
    new w 119 #[.int .i64 0, .slice none 0 0, .slice none 0 0] fun t11 w =>
    st w 3 t11 t38 fun _ w =>
    len w (at' s1 0) fun t40 w =>
    loop [(.int .i64 0)] w fun J2 s2 next2 w =>
    bin w .lss (at' s2 0) t40 fun t42 w =>
    Br t42 (
      idx w 2 (at' s1 0) (at' s2 0) fun t43 w =>
      ldN w 2 t43 fun t44 w =>
      new w 151 #[.int .i64 0, .int .i64 0] fun t13 w =>
      st w 2 t13 t44 fun _ w =>
      add w 1 t11 fun t45 w =>
      ld w t45 fun t46 w =>
      add w 0 t13 fun t47 w =>
      ld w t47 fun t48 w =>
      bldS w 3 1 1 [.int .i64 0] [(0, t48)] fun t49 w =>
      app w 3 1 8 #[.int .i64 0] t46 t49 fun t50 w =>
      add w 1 t11 fun t51 w =>
      st w 1 t51 t50 fun _ w =>
      add w 2 t11 fun t52 w =>
      ld w t52 fun t53 w =>
      add w 1 t13 fun t54 w =>
      ld w t54 fun t55 w =>
      bldS w 3 1 1 [.int .i64 0] [(0, t55)] fun t56 w =>
      app w 3 1 8 #[.int .i64 0] t53 t56 fun t57 w =>
      add w 2 t11 fun t58 w =>
      st w 1 t58 t57 fun _ w =>
      bin w .add (at' s2 0) (.int .i64 1) fun t59 w =>
      next2 [t59] w
    ) (
      ldN w 3 t11 fun t62 w =>
      bldS w 119 1 3 [.int .i64 0, .slice none 0 0, .slice none 0 0] [(0, t62)] fun t63 w =>
      call Tryz.prog w 144 [t0_1, t63] fun t64 w =>
      tup w 0 t64 fun t65 w =>
      tup w 1 t64 fun t66 w =>
      eq w true true .iface t66 .nilIface fun t68 w =>
      Br t68 (
        k (.tuple #[(.int .i64 0), t66]) w
      ) (
        next1 [t65] w
      )
    )
  ) (
    len w (at' s1 0) fun t71 w =>
    bin w .eql t71 (.int .i64 1) fun t72 w =>
    Br t72 (
      idx w 2 (at' s1 0) (.int .i64 0) fun t74 w =>
      add w 1 t74 fun t75 w =>
      ld w t75 fun t76 w =>
      nn w t0_1 fun t78 w =>
      add w 0 t78 fun t79 w =>
      ld w t79 fun t80 w =>
      call Tryz.prog w 72 [t80, t76] fun t82 w =>
      b_btree_change_donej2 t0_1 t1_1 t76 next1 k w
    ) (
      b_btree_change_donej2 t0_1 t1_1 (.int .i64 0) next1 k w
    )
  )
def b_btree_change_done (t0 t1 t2 : Value) (k : K) (w : World) : Prop :=
  len w t2 fun t17 w =>
  bin w .gtr t17 (.int .i64 1) fun t18 w =>
  Br t18 (
    drawS w fun S w =>
    nn w t0 fun t21 w =>
    add w 0 t21 fun t22 w =>
    idx w 2 t2 (.int .i64 0) fun t25 w =>
    add w 1 t25 fun t26 w =>
    held S w (fun w k => ld w t22 k) fun t23 w =>
    held S w (fun w k => ld w t26 k) fun t27 w =>
    (
      call Tryz.prog w 79 [t23, t27] fun t28 w =>
      tup w 0 t28 fun t29 w =>
      tup w 1 t28 fun t30 w =>
      new w 119 #[.int .i64 0, .slice none 0 0, .slice none 0 0] fun t9 w =>
      S w ∧
      st w 3 t9 t29 fun _ w =>
      add w 0 t9 fun t31 w =>
      ld w t31 fun t32 w =>
      bin w .add t32 (.int .i64 1) fun t33 w =>
      b_btree_change_donej1 t0 t1 t2 t33 k w
    ) ∧
    (
      new w 119 #[.int .i64 0, .slice none 0 0, .slice none 0 0] fun t9_1 w =>
      S w ∧
      call Tryz.prog w 79 [t23, t27] fun t28_1 w =>
      tup w 0 t28_1 fun t29_1 w =>
      tup w 1 t28_1 fun t30_1 w =>
      st w 3 t9_1 t29_1 fun _ w =>
      add w 0 t9_1 fun t31_1 w =>
      ld w t31_1 fun t32_1 w =>
      bin w .add t32_1 (.int .i64 1) fun t33_1 w =>
      b_btree_change_donej1 t0 t1 t2 t33_1 k w
    )
  ) (
    b_btree_change_donej1 t0 t1 t2 (.int .i64 0) k w
  )
theorem b_btree_change_done_eq (t0 t1 t2 : Value) (k : K) (w : World) : b_btree_change_done t0 t1 t2 k w = bodyW Tryz.prog [(1005, [2]), (8, [41])] Tryz.f163 [t0, t1, t2] k w := by kernel_rfl
/-- (*portage/btree.change).done -/
theorem b_btree_change_done_walk {t0 t1 t2 : Value} {k : K} {w : World} (h : b_btree_change_done t0 t1 t2 k w) : call Tryz.prog w 163 [t0, t1, t2] k :=
  calls_of_body Tryz.func163 (b_btree_change_done_eq t0 t1 t2 k w ▸ h) (Nat.le_of_ble_eq_true rfl)
/-! ### (*portage/btree.change).down -/
def b_btree_change_down (t0 t1 t2 t3 t4 : Value) (k : K) (w : World) : Prop :=
  nn w t0 fun t22 w =>
  add w 0 t22 fun t23 w =>
  ld w t23 fun t24 w =>
  call Tryz.prog w 79 [t24, t1] fun t26 w =>
  tup w 0 t26 fun t27 w =>
  tup w 1 t26 fun t28 w =>
  new w 119 #[.int .i64 0, .slice none 0 0, .slice none 0 0] fun t12 w =>
  st w 3 t12 t27 fun _ w =>
  eq w true true .iface t28 .nilIface fun t30 w =>
  Br t30 (
    k (.tuple #[(.slice none 0 0), t28]) w
  ) (
    add w 0 t12 fun t32 w =>
    ld w t32 fun t33 w =>
    bin w .eql t33 (.int .i64 0) fun t34 w =>
    Br t34 (
      ldN w 3 t12 fun t37 w =>
      callV Tryz.prog w t4 [t37] fun t38 w =>
      tup w 0 t38 fun t39 w =>
      tup w 1 t38 fun t40 w =>
      eq w true true .iface t40 .nilIface fun t42 w =>
      Br t42 (
        k (.tuple #[(.slice none 0 0), t40]) w
      ) (
        call Tryz.prog w 144 [t0, t39] fun t46 w =>
        tup w 0 t46 fun t47 w =>
        tup w 1 t46 fun t48 w =>
        k (.tuple #[t47, t48]) w
      )
    ) (
      ldN w 3 t12 fun t50 w =>
      call Tryz.prog w 114 [t50, t2] fun t52 w =>
      tup w 0 t52 fun t53 w =>
      tup w 1 t52 fun t54 w =>
      ext w true t53 (.int .i64 0) fun t56 w =>
      add w 2 t12 fun t59 w =>
      ld w t59 fun t60 w =>
      idx w 1 t60 t56 fun t62 w =>
      ld w t62 fun t63 w =>
      call Tryz.prog w 162 [t0, t63, t2, (.bool false), t4] fun t66 w =>
      tup w 0 t66 fun t67 w =>
      tup w 1 t66 fun t68 w =>
      eq w true true .iface t68 .nilIface fun t70 w =>
      Br t70 (
        k (.tuple #[(.slice none 0 0), t68]) w
      ) (
        ldN w 3 t12 fun t73 w =>
        call Tryz.prog w 199 [t73, t56, t67] fun t76 w =>
        tup w 0 t76 fun t77 w =>
        tup w 1 t76 fun t78 w =>
        eq w true true .iface t78 .nilIface fun t80 w =>
        Br t80 (
          k (.tuple #[(.slice none 0 0), t78]) w
        ) (
          Br t3 (
            call Tryz.prog w 200 [t77] fun t85 w =>
            Br t85 (
              idx w 3 t77 (.int .i64 0) fun t89 w =>
              ldN w 3 t89 fun t90 w =>
              call Tryz.prog w 201 [t0, t90] fun t91 w =>
              k (.tuple #[t91, .nilIface]) w
            ) (
              call Tryz.prog w 144 [t0, t77] fun t94 w =>
              tup w 0 t94 fun t95 w =>
              tup w 1 t94 fun t96 w =>
              k (.tuple #[t95, t96]) w
            )
          ) (
            call Tryz.prog w 144 [t0, t77] fun t94_1 w =>
            tup w 0 t94_1 fun t95_1 w =>
            tup w 1 t94_1 fun t96_1 w =>
            k (.tuple #[t95_1, t96_1]) w
          )
        )
      )
    )
  )
theorem b_btree_change_down_eq (t0 t1 t2 t3 t4 : Value) (k : K) (w : World) : b_btree_change_down t0 t1 t2 t3 t4 k w = bodyW Tryz.prog [] Tryz.f162 [t0, t1, t2, t3, t4] k w := by kernel_rfl
/-- (*portage/btree.change).down -/
theorem b_btree_change_down_walk {t0 t1 t2 t3 t4 : Value} {k : K} {w : World} (h : b_btree_change_down t0 t1 t2 t3 t4 k w) : call Tryz.prog w 162 [t0, t1, t2, t3, t4] k :=
  calls_of_body Tryz.func162 (b_btree_change_down_eq t0 t1 t2 t3 t4 k w ▸ h) (Nat.le_of_ble_eq_true rfl)
/-! ### (*portage/btree.change).only -/
def b_btree_change_only (t0 t1 : Value) (k : K) (w : World) : Prop :=
  box w 119 t1 fun t3 w =>
  drawS w fun S w =>
  add w 1 t3 fun t8 w =>
  add w 2 t3 fun t12 w =>
  held S w (fun w k => ld w t8 k) fun t9 w =>
  idx w 1 t9 (.int .i64 0) fun t10 w =>
  held S w (fun w k => ld w t10 k) fun t11 w =>
  held S w (fun w k => ld w t12 k) fun t13 w =>
  idx w 1 t13 (.int .i64 0) fun t14 w =>
  held S w (fun w k => ld w t14 k) fun t15 w =>
  bld w #[(0, 1), (1, 1)] #[.int .i64 0, .int .i64 0] [(0, t11), (1, t15)] fun t16 w =>
  new w 151 #[.int .i64 0, .int .i64 0] fun t5 w =>
  S w ∧
  st w 2 t5 t16 fun _ w =>
  loop [] w fun J1 s1 next1 w =>
  drawS w fun S w =>
  nn w t0 fun t19 w =>
  add w 0 t19 fun t20 w =>
  add w 1 t5 fun t22 w =>
  held S w (fun w k => ld w t20 k) fun t21 w =>
  held S w (fun w k => ld w t22 k) fun t23 w =>
  (
    call Tryz.prog w 79 [t21, t23] fun t24 w =>
    tup w 0 t24 fun t25 w =>
    tup w 1 t24 fun t26 w =>
    new w 119 #[.int .i64 0, .slice none 0 0, .slice none 0 0] fun t6 w =>
    S w ∧
    st w 3 t6 t25 fun _ w =>
    add w 0 t6 fun t27 w =>
    ld w t27 fun t28 w =>
    bin w .eql t28 (.int .i64 0) fun t29 w =>
    Br t29 (
      ldN w 2 t5 fun t36 w =>
      bldS w 151 1 2 [.int .i64 0, .int .i64 0] [(0, t36)] fun t37 w =>
      k t37 w
    ) (
      add w 1 t6 fun t31 w =>
      ld w t31 fun t32 w =>
      len w t32 fun t33 w =>
      bin w .gtr t33 (.int .i64 1) fun t34 w =>
      Br t34 (
        ldN w 2 t5 fun t36_1 w =>
        bldS w 151 1 2 [.int .i64 0, .int .i64 0] [(0, t36_1)] fun t37_1 w =>
        k t37_1 w
      ) (
        drawS w fun S w =>
        add w 1 t6 fun t38 w =>
        add w 2 t6 fun t42 w =>
        held S w (fun w k => ld w t38 k) fun t39 w =>
        idx w 1 t39 (.int .i64 0) fun t40 w =>
        held S w (fun w k => ld w t40 k) fun t41 w =>
        held S w (fun w k => ld w t42 k) fun t43 w =>
        idx w 1 t43 (.int .i64 0) fun t44 w =>
        held S w (fun w k => ld w t44 k) fun t45 w =>
        bld w #[(0, 1), (1, 1)] #[.int .i64 0, .int .i64 0] [(0, t41), (1, t45)] fun t46 w =>
        st w 2 t5 t46 fun _ w =>
        next1 [] w
      )
    )
  ) ∧
  (
    new w 119 #[.int .i64 0, .slice none 0 0, .slice none 0 0] fun t6_1 w =>
    S w ∧
    call Tryz.prog w 79 [t21, t23] fun t24_1 w =>
    tup w 0 t24_1 fun t25_1 w =>
    tup w 1 t24_1 fun t26_1 w =>
    st w 3 t6_1 t25_1 fun _ w =>
    add w 0 t6_1 fun t27_1 w =>
    ld w t27_1 fun t28_1 w =>
    bin w .eql t28_1 (.int .i64 0) fun t29_1 w =>
    Br t29_1 (
      ldN w 2 t5 fun t36_2 w =>
      bldS w 151 1 2 [.int .i64 0, .int .i64 0] [(0, t36_2)] fun t37_2 w =>
      k t37_2 w
    ) (
      add w 1 t6_1 fun t31_1 w =>
      ld w t31_1 fun t32_1 w =>
      len w t32_1 fun t33_1 w =>
      bin w .gtr t33_1 (.int .i64 1) fun t34_1 w =>
      Br t34_1 (
        ldN w 2 t5 fun t36_3 w =>
        bldS w 151 1 2 [.int .i64 0, .int .i64 0] [(0, t36_3)] fun t37_3 w =>
        k t37_3 w
      ) (
        drawS w fun S w =>
        add w 1 t6_1 fun t38_1 w =>
        add w 2 t6_1 fun t42_1 w =>
        held S w (fun w k => ld w t38_1 k) fun t39_1 w =>
        idx w 1 t39_1 (.int .i64 0) fun t40_1 w =>
        held S w (fun w k => ld w t40_1 k) fun t41_1 w =>
        held S w (fun w k => ld w t42_1 k) fun t43_1 w =>
        idx w 1 t43_1 (.int .i64 0) fun t44_1 w =>
        held S w (fun w k => ld w t44_1 k) fun t45_1 w =>
        bld w #[(0, 1), (1, 1)] #[.int .i64 0, .int .i64 0] [(0, t41_1), (1, t45_1)] fun t46_1 w =>
        st w 2 t5 t46_1 fun _ w =>
        next1 [] w
      )
    )
  )
theorem b_btree_change_only_eq (t0 t1 : Value) (k : K) (w : World) : b_btree_change_only t0 t1 k w = bodyW Tryz.prog [(2, [])] Tryz.f201 [t0, t1] k w := by kernel_rfl
/-- (*portage/btree.change).only -/
theorem b_btree_change_only_walk {t0 t1 : Value} {k : K} {w : World} (h : b_btree_change_only t0 t1 k w) : call Tryz.prog w 201 [t0, t1] k :=
  calls_of_body Tryz.func201 (b_btree_change_only_eq t0 t1 k w ▸ h) (Nat.le_of_ble_eq_true rfl)
/-! ### (*portage/btree.change).swap -/
def b_btree_change_swapj2 (t0_2 t1_2 t2_2 t3_2 t4_2 t14_2 t18_1 t19_1 t21_1 t55_2 t56_2 t57_1 : Value) (next1 : List Value → World → Prop) (k : K) (w : World) : Prop :=
  add w 2 t14_2 fun t96 w =>
  ld w t96 fun t97 w =>
  idx w 1 t97 t19_1 fun t100 w =>
  st w 1 t100 t21_1 fun _ w =>
  bin w .add t57_1 (.int .i64 1) fun t101 w =>
  next1 [t18_1, t101] w
def b_btree_change_swapj1 (t0_1 t1_1 t2_1 t3_1 t4_1 t14_1 t18 t19 t21 t22 t55_1 t56_1 t57 : Value) (next1 : List Value → World → Prop) (k : K) (w : World) : Prop :=
  Br t18 (
    b_btree_change_swapj2 t0_1 t1_1 t2_1 t3_1 t4_1 t14_1 (.bool true) t19 t21 t55_1 t56_1 t57 next1 k w
  ) (
    b_btree_change_swapj2 t0_1 t1_1 t2_1 t3_1 t4_1 t14_1 t22 t19 t21 t55_1 t56_1 t57 next1 k w
  )
def b_btree_change_swap (t0 t1 t2 t3 t4 : Value) (k : K) (w : World) : Prop :=
  lkp w (.int .i64 0) true t3 t1 fun t29 w =>
  tup w 0 t29 fun t30 w =>
  tup w 1 t29 fun t31 w =>
  Br t31 (
    k (.tuple #[t30, .nilIface]) w
  ) (
    nn w t0 fun t36 w =>
    add w 0 t36 fun t37 w =>
    ld w t37 fun t38 w =>
    call Tryz.prog w 79 [t38, t1] fun t40 w =>
    tup w 0 t40 fun t41 w =>
    tup w 1 t40 fun t42 w =>
    new w 119 #[.int .i64 0, .slice none 0 0, .slice none 0 0] fun t14 w =>
    st w 3 t14 t41 fun _ w =>
    eq w true true .iface t42 .nilIface fun t44 w =>
    Br t44 (
      k (.tuple #[(.int .i64 0), t42]) w
    ) (
      call Tryz.prog w 30 [t1] fun t48 w =>
      tup w 0 t48 fun t49 w =>
      tup w 1 t48 fun t50 w =>
      bin w .eql t49 t2 fun t53 w =>
      add w 2 t14 fun t54 w =>
      ld w t54 fun t55 w =>
      len w t55 fun t56 w =>
      loop [t53, (.int .i64 0)] w fun J1 s1 next1 w =>
      bin w .lss (at' s1 1) t56 fun t58 w =>
      Br t58 (
        idx w 1 t55 (at' s1 1) fun t60 w =>
        ld w t60 fun t61 w =>
        add w 0 t14 fun t63 w =>
        ld w t63 fun t64 w =>
        bin w .gtr t64 (.int .i64 0) fun t65 w =>
        Br t65 (
          call Tryz.prog w 93 [t0, t61, t2, t3, t4] fun t72 w =>
          tup w 0 t72 fun t73 w =>
          tup w 1 t72 fun t74 w =>
          eq w true true .iface t74 .nilIface fun t76 w =>
          Br t76 (
            k (.tuple #[(.int .i64 0), t74]) w
          ) (
            bin w .neq t73 t61 fun t80 w =>
            b_btree_change_swapj1 t0 t1 t2 t3 t4 t14 (at' s1 0) (at' s1 1) t73 t80 t55 t56 (at' s1 1) next1 k w
          )
        ) (
          lkp w (.int .i64 0) true t4 t61 fun t84 w =>
          tup w 0 t84 fun t85 w =>
          tup w 1 t84 fun t86 w =>
          Br t86 (
            bin w .neq t85 t61 fun t91 w =>
            b_btree_change_swapj1 t0 t1 t2 t3 t4 t14 (at' s1 0) (at' s1 1) t85 t91 t55 t56 (at' s1 1) next1 k w
          ) (
            b_btree_change_swapj1 t0 t1 t2 t3 t4 t14 (at' s1 0) (at' s1 1) t61 (.bool false) t55 t56 (at' s1 1) next1 k w
          )
        )
      ) (
        un w .not (at' s1 0) fun t103 w =>
        Br t103 (
          k (.tuple #[t1, .nilIface]) w
        ) (
          ldN w 3 t14 fun t105 w =>
          call Tryz.prog w 102 [t105] fun t106 w =>
          eq w true true .iface t106 .nilIface fun t107 w =>
          Br t107 (
            k (.tuple #[(.int .i64 0), (.iface 149 (.int .i64 80))]) w
          ) (
            ldN w 3 t14 fun t111 w =>
            bldS w 119 1 3 [.int .i64 0, .slice none 0 0, .slice none 0 0] [(0, t111)] fun t112 w =>
            call Tryz.prog w 144 [t0, t112] fun t113 w =>
            tup w 0 t113 fun t114 w =>
            tup w 1 t113 fun t115 w =>
            eq w true true .iface t115 .nilIface fun t117 w =>
            Br t117 (
              k (.tuple #[(.int .i64 0), t115]) w
            ) (
              idx w 2 t114 (.int .i64 0) fun t122 w =>
              add w 1 t122 fun t123 w =>
              ld w t123 fun t124 w =>
              mput w t3 t1 t124 fun _ w =>
              idx w 2 t114 (.int .i64 0) fun t126 w =>
              add w 1 t126 fun t127 w =>
              ld w t127 fun t128 w =>
              k (.tuple #[t128, .nilIface]) w
            )
          )
        )
      )
    )
  )
theorem b_btree_change_swap_eq (t0 t1 t2 t3 t4 : Value) (k : K) (w : World) : b_btree_change_swap t0 t1 t2 t3 t4 k w = bodyW Tryz.prog [(10, [18, 57])] Tryz.f93 [t0, t1, t2, t3, t4] k w := by kernel_rfl
/-- (*portage/btree.change).swap -/
theorem b_btree_change_swap_walk {t0 t1 t2 t3 t4 : Value} {k : K} {w : World} (h : b_btree_change_swap t0 t1 t2 t3 t4 k w) : call Tryz.prog w 93 [t0, t1, t2, t3, t4] k :=
  calls_of_body Tryz.func93 (b_btree_change_swap_eq t0 t1 t2 t3 t4 k w ▸ h) (Nat.le_of_ble_eq_true rfl)
/-! ### (*portage/btree.change).write -/
def b_btree_change_write (t0 t1 : Value) (k : K) (w : World) : Prop :=
  len w t1 fun t12 w =>
  loop [(.slice none 0 0), (.int .i64 0)] w fun J1 s1 next1 w =>
  bin w .lss (at' s1 1) t12 fun t14 w =>
  Br t14 (
    idx w 3 t1 (at' s1 1) fun t15 w =>
    ldN w 3 t15 fun t16 w =>
    new w 119 #[.int .i64 0, .slice none 0 0, .slice none 0 0] fun t8 w =>
    st w 3 t8 t16 fun _ w =>
    drawS w fun S w =>
    nn w t0 fun t19 w =>
    add w 0 t19 fun t20 w =>
    held S w (fun w k => ld w t20 k) fun t21 w =>
    held S w (fun w k => ldN w 3 t8 k) fun t22 w =>
    call Tryz.prog w 103 [t21, t22] fun t23 w =>
    tup w 0 t23 fun t24 w =>
    tup w 1 t23 fun t25 w =>
    eq w true true .iface t25 .nilIface fun t27 w =>
    Br t27 (
      k (.tuple #[(.slice none 0 0), t25]) w
    ) (
      nn w t0 fun t31 w =>
      add w 1 t31 fun t32 w =>
      ld w t32 fun t33 w =>
      bldS w 3 1 1 [.int .i64 0] [(0, t24)] fun t35 w =>
      app w 3 1 8 #[.int .i64 0] t33 t35 fun t36 w =>
      nn w t0 fun t37 w =>
      add w 1 t37 fun t38 w =>
      st w 1 t38 t36 fun _ w =>
      add w 1 t8 fun t40 w =>
      ld w t40 fun t41 w =>
      idx w 1 t41 (.int .i64 0) fun t42 w =>
      ld w t42 fun t43 w =>
      bld w #[(0, 1), (1, 1)] #[.int .i64 0, .int .i64 0] [(0, t43), (1, t24)] fun t45 w =>
      bldS w 151 1 2 [.int .i64 0, .int .i64 0] [(0, t45)] fun t46 w =>
      app w 151 2 16 #[.int .i64 0, .int .i64 0] (at' s1 0) t46 fun t47 w =>
      bin w .add (at' s1 1) (.int .i64 1) fun t48 w =>
      next1 [t47, t48] w
    )
  ) (
    k (.tuple #[(at' s1 0), .nilIface]) w
  )
theorem b_btree_change_write_eq (t0 t1 : Value) (k : K) (w : World) : b_btree_change_write t0 t1 k w = bodyW Tryz.prog [(3, [6, 13])] Tryz.f144 [t0, t1] k w := by kernel_rfl
/-- (*portage/btree.change).write -/
theorem b_btree_change_write_walk {t0 t1 : Value} {k : K} {w : World} (h : b_btree_change_write t0 t1 k w) : call Tryz.prog w 144 [t0, t1] k :=
  calls_of_body Tryz.func144 (b_btree_change_write_eq t0 t1 k w ▸ h) (Nat.le_of_ble_eq_true rfl)
/-! ### portage/btree.gather -/
def b_btree_gather (t0 t1 t2 : Value) (k : K) (w : World) : Prop :=
  call Tryz.prog w 79 [t0, t1] fun t13 w =>
  tup w 0 t13 fun t14 w =>
  tup w 1 t13 fun t15 w =>
  new w 119 #[.int .i64 0, .slice none 0 0, .slice none 0 0] fun t6 w =>
  st w 3 t6 t14 fun _ w =>
  eq w true true .iface t15 .nilIface fun t17 w =>
  Br t17 (
    k (.tuple #[]) w
  ) (
    lkp w (.int .i64 0) false t2 t1 fun t21 w =>
    bin w .gtr t21 (.int .i64 0) fun t22 w =>
    Br t22 (
      k (.tuple #[]) w
    ) (
      mput w t2 t1 (.int .i64 1) fun _ w =>
      add w 2 t6 fun t26 w =>
      ld w t26 fun t27 w =>
      len w t27 fun t28 w =>
      loop [(.int .i64 0)] w fun J1 s1 next1 w =>
      bin w .lss (at' s1 0) t28 fun t30 w =>
      Br t30 (
        idx w 1 t27 (at' s1 0) fun t31 w =>
        ld w t31 fun t32 w =>
        add w 0 t6 fun t33 w =>
        ld w t33 fun t34 w =>
        bin w .gtr t34 (.int .i64 0) fun t35 w =>
        Br t35 (
          call Tryz.prog w 128 [t0, t32, t2] fun t39 w =>
          bin w .add (at' s1 0) (.int .i64 1) fun t40 w =>
          next1 [t40] w
        ) (
          bin w .add (at' s1 0) (.int .i64 1) fun t40_1 w =>
          next1 [t40_1] w
        )
      ) (
        k (.tuple #[]) w
      )
    )
  )
theorem b_btree_gather_eq (t0 t1 t2 : Value) (k : K) (w : World) : b_btree_gather t0 t1 t2 k w = bodyW Tryz.prog [(4, [29])] Tryz.f128 [t0, t1, t2] k w := by kernel_rfl
/-- portage/btree.gather -/
theorem b_btree_gather_walk {t0 t1 t2 : Value} {k : K} {w : World} (h : b_btree_gather t0 t1 t2 k w) : call Tryz.prog w 128 [t0, t1, t2] k :=
  calls_of_body Tryz.func128 (b_btree_gather_eq t0 t1 t2 k w ▸ h) (Nat.le_of_ble_eq_true rfl)
/-! ### portage/btree.run -/
def b_btree_run (t0 t1 t2 t3 : Value) (k : K) (w : World) : Prop :=
  bld w #[(0, 1), (1, 1)] #[.pointer none, .slice none 0 0] [(0, t0)] fun t15 w =>
  box w 166 t15 fun t16 w =>
  call Tryz.prog w 162 [t16, t1, t2, (.bool true), t3] fun t22 w =>
  tup w 0 t22 fun t23 w =>
  tup w 1 t22 fun t24 w =>
  eq w false true .iface t24 .nilIface fun t26 w =>
  Br t26 (
    call Tryz.prog w 163 [t16, t1, t23] fun t31 w =>
    tup w 0 t31 fun t32 w =>
    tup w 1 t31 fun t33 w =>
    call Tryz.prog w 97 [t16] fun t35 w =>
    eq w true true .iface t33 .nilIface fun t37 w =>
    Br t37 (
      k (.tuple #[(.int .i64 0), t33]) w
    ) (
      k (.tuple #[t32, .nilIface]) w
    )
  ) (
    call Tryz.prog w 97 [t16] fun t35_1 w =>
    eq w true true .iface t24 .nilIface fun t37_1 w =>
    Br t37_1 (
      k (.tuple #[(.int .i64 0), t24]) w
    ) (
      k (.tuple #[(.int .i64 0), .nilIface]) w
    )
  )
theorem b_btree_run_eq (t0 t1 t2 t3 : Value) (k : K) (w : World) : b_btree_run t0 t1 t2 t3 k w = bodyW Tryz.prog [] Tryz.f104 [t0, t1, t2, t3] k w := by kernel_rfl
/-- portage/btree.run -/
theorem b_btree_run_walk {t0 t1 t2 t3 : Value} {k : K} {w : World} (h : b_btree_run t0 t1 t2 t3 k w) : call Tryz.prog w 104 [t0, t1, t2, t3] k :=
  calls_of_body Tryz.func104 (b_btree_run_eq t0 t1 t2 t3 k w ▸ h) (Nat.le_of_ble_eq_true rfl)
/-! ### portage/btree.single -/
def b_btree_single (t0 : Value) (k : K) (w : World) : Prop :=
  len w t0 fun t4 w =>
  bin w .eql t4 (.int .i64 1) fun t5 w =>
  Br t5 (
    idx w 3 t0 (.int .i64 0) fun t8 w =>
    add w 0 t8 fun t9 w =>
    ld w t9 fun t10 w =>
    bin w .gtr t10 (.int .i64 0) fun t11 w =>
    Br t11 (
      idx w 3 t0 (.int .i64 0) fun t15 w =>
      add w 1 t15 fun t16 w =>
      ld w t16 fun t17 w =>
      len w t17 fun t18 w =>
      bin w .eql t18 (.int .i64 1) fun t19 w =>
      k t19 w
    ) (
      k (.bool false) w
    )
  ) (
    k (.bool false) w
  )
theorem b_btree_single_eq (t0 : Value) (k : K) (w : World) : b_btree_single t0 k w = bodyW Tryz.prog [] Tryz.f200 [t0] k w := by kernel_rfl
/-- portage/btree.single -/
theorem b_btree_single_walk {t0 : Value} {k : K} {w : World} (h : b_btree_single t0 k w) : call Tryz.prog w 200 [t0] k :=
  calls_of_body Tryz.func200 (b_btree_single_eq t0 k w ▸ h) (Nat.le_of_ble_eq_true rfl)
/-! ### portage/btree.walk -/
def b_btree_walk (t0 t1 t2 t3 : Value) (k : K) (w : World) : Prop :=
  call Tryz.prog w 79 [t0, t1] fun t16 w =>
  tup w 0 t16 fun t17 w =>
  tup w 1 t16 fun t18 w =>
  new w 119 #[.int .i64 0, .slice none 0 0, .slice none 0 0] fun t9 w =>
  st w 3 t9 t17 fun _ w =>
  eq w true true .iface t18 .nilIface fun t20 w =>
  Br t20 (
    k (.bool true) w
  ) (
    add w 1 t9 fun t21 w =>
    ld w t21 fun t22 w =>
    len w t22 fun t23 w =>
    loop [(.int .i64 0)] w fun J1 s1 next1 w =>
    bin w .lss (at' s1 0) t23 fun t25 w =>
    Br t25 (
      idx w 1 t22 (at' s1 0) fun t27 w =>
      ld w t27 fun t28 w =>
      add w 0 t9 fun t30 w =>
      ld w t30 fun t31 w =>
      bin w .gtr t31 (.int .i64 0) fun t32 w =>
      Br t32 (
        bin w .add (at' s1 0) (.int .i64 1) fun t34 w =>
        add w 1 t9 fun t35 w =>
        ld w t35 fun t36 w =>
        len w t36 fun t37 w =>
        bin w .lss t34 t37 fun t38 w =>
        Br t38 (
          add w 1 t9 fun t40 w =>
          ld w t40 fun t41 w =>
          bin w .add (at' s1 0) (.int .i64 1) fun t43 w =>
          idx w 1 t41 t43 fun t44 w =>
          ld w t44 fun t45 w =>
          bin w .leq t45 t2 fun t47 w =>
          Br t47 (
            bin w .add (at' s1 0) (.int .i64 1) fun t73 w =>
            next1 [t73] w
          ) (
            add w 2 t9 fun t50 w =>
            ld w t50 fun t51 w =>
            idx w 1 t51 (at' s1 0) fun t53 w =>
            ld w t53 fun t54 w =>
            call Tryz.prog w 126 [t0, t54, t2, t3] fun t57 w =>
            un w .not t57 fun t58 w =>
            Br t58 (
              k (.bool false) w
            ) (
              bin w .add (at' s1 0) (.int .i64 1) fun t73_1 w =>
              next1 [t73_1] w
            )
          )
        ) (
          add w 2 t9 fun t50_1 w =>
          ld w t50_1 fun t51_1 w =>
          idx w 1 t51_1 (at' s1 0) fun t53_1 w =>
          ld w t53_1 fun t54_1 w =>
          call Tryz.prog w 126 [t0, t54_1, t2, t3] fun t57_1 w =>
          un w .not t57_1 fun t58_1 w =>
          Br t58_1 (
            k (.bool false) w
          ) (
            bin w .add (at' s1 0) (.int .i64 1) fun t73_2 w =>
            next1 [t73_2] w
          )
        )
      ) (
        bin w .geq t28 t2 fun t62 w =>
        Br t62 (
          add w 2 t9 fun t65 w =>
          ld w t65 fun t66 w =>
          idx w 1 t66 (at' s1 0) fun t68 w =>
          ld w t68 fun t69 w =>
          bld w #[(0, 1), (1, 1)] #[.int .i64 0, .int .i64 0] [(0, t28), (1, t69)] fun t70 w =>
          callV Tryz.prog w t3 [t70] fun t71 w =>
          un w .not t71 fun t72 w =>
          Br t72 (
            k (.bool false) w
          ) (
            bin w .add (at' s1 0) (.int .i64 1) fun t73_3 w =>
            next1 [t73_3] w
          )
        ) (
          bin w .add (at' s1 0) (.int .i64 1) fun t73_4 w =>
          next1 [t73_4] w
        )
      )
    ) (
      k (.bool true) w
    )
  )
theorem b_btree_walk_eq (t0 t1 t2 t3 : Value) (k : K) (w : World) : b_btree_walk t0 t1 t2 t3 k w = bodyW Tryz.prog [(5, [24])] Tryz.f126 [t0, t1, t2, t3] k w := by kernel_rfl
/-- portage/btree.walk -/
theorem b_btree_walk_walk {t0 t1 t2 t3 : Value} {k : K} {w : World} (h : b_btree_walk t0 t1 t2 t3 k w) : call Tryz.prog w 126 [t0, t1, t2, t3] k :=
  calls_of_body Tryz.func126 (b_btree_walk_eq t0 t1 t2 t3 k w ▸ h) (Nat.le_of_ble_eq_true rfl)
end Go.Proofs.YtemenmmekddjaaaGreatDoor
