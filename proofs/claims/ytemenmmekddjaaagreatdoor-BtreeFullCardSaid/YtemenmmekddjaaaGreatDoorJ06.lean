/- The bodies of functions, written out by program from the loaded translation; each is held against it by the kernel. No condition. -/
import Derived.Test.YtemenmmekddjaaaGreatDoorProg
import Derived.KernelRfl
import Derived.Test.YtemenmmekddjaaaGreatDoorJ03
set_option linter.all false
set_option linter.unusedVariables false
set_option linter.unusedSimpArgs false
set_option linter.unnecessarySimpa false
set_option linter.unusedSectionVars false
set_option linter.constructorNameAsVariable false
namespace Go.Proofs.YtemenmmekddjaaaGreatDoor
open Go Go.Wx Go.W
set_option maxRecDepth 100000
set_option linter.unusedVariables false
/-! ### (portage/node.Node).Bytes -/
def b_node_Node_Bytes (t0 : Value) (k : K) (w : World) : Prop :=
  box w 119 t0 fun t1 w =>
  ldN w 3 t1 fun t9 w =>
  call Tryz.prog w 102 [t9] fun t10 w =>
  eq w true true .iface t10 .nilIface fun t11 w =>
  Br t11 (
    k (.tuple #[(.slice none 0 0), (.iface 149 (.int .i64 70))]) w
  ) (
    drawS w fun S w =>
    add w 0 t1 fun t14 w =>
    add w 1 t1 fun t16 w =>
    held S w (fun w k => ld w t14 k) fun t15 w =>
    held S w (fun w k => ld w t16 k) fun t17 w =>
    len w t17 fun t18 w =>
    (
      call Tryz.prog w 188 [] fun t13 w =>
      S w ∧
      bldS w 3 2 1 [.int .i64 0] [(0, t15), (1, t18)] fun t19 w =>
      call Tryz.prog w 189 [t13, t19] fun t20 w =>
      S w ∧
      ldN w 3 t1 fun t21 w =>
      call Tryz.prog w 155 [t21] fun t22 w =>
      len w t22 fun t23 w =>
      loop [(.int .i64 0)] w fun J1 s1 next1 w =>
      bin w .lss (at' s1 0) t23 fun t25 w =>
      Br t25 (
        idx w 2 t22 (at' s1 0) fun t26 w =>
        ldN w 2 t26 fun t27 w =>
        new w 151 #[.int .i64 0, .int .i64 0] fun t6 w =>
        st w 2 t6 t27 fun _ w =>
        add w 0 t6 fun t29 w =>
        ld w t29 fun t30 w =>
        add w 1 t6 fun t31 w =>
        ld w t31 fun t32 w =>
        bldS w 3 2 1 [.int .i64 0] [(0, t30), (1, t32)] fun t33 w =>
        call Tryz.prog w 190 [t20, t33] fun t34 w =>
        bin w .add (at' s1 0) (.int .i64 1) fun t35 w =>
        next1 [t35] w
      ) (
        call Tryz.prog w 191 [t20] fun t38 w =>
        tup w 0 t38 fun t39 w =>
        tup w 1 t38 fun t40 w =>
        eq w true true .iface t40 .nilIface fun t42 w =>
        Br t42 (
          k (.tuple #[(.slice none 0 0), (.iface 149 (.int .i64 70))]) w
        ) (
          call Tryz.prog w 192 [(.int .u8 2), t39] fun t45 w =>
          tup w 0 t45 fun t46 w =>
          tup w 1 t45 fun t47 w =>
          k (.tuple #[t46, t47]) w
        )
      )
    ) ∧
    (
      bldS w 3 2 1 [.int .i64 0] [(0, t15), (1, t18)] fun t19_1 w =>
      call Tryz.prog w 188 [] fun t13_1 w =>
      S w ∧
      call Tryz.prog w 189 [t13_1, t19_1] fun t20_1 w =>
      S w ∧
      ldN w 3 t1 fun t21_1 w =>
      call Tryz.prog w 155 [t21_1] fun t22_1 w =>
      len w t22_1 fun t23_1 w =>
      loop [(.int .i64 0)] w fun J2 s2 next2 w =>
      bin w .lss (at' s2 0) t23_1 fun t25_1 w =>
      Br t25_1 (
        idx w 2 t22_1 (at' s2 0) fun t26_1 w =>
        ldN w 2 t26_1 fun t27_1 w =>
        new w 151 #[.int .i64 0, .int .i64 0] fun t6_1 w =>
        st w 2 t6_1 t27_1 fun _ w =>
        add w 0 t6_1 fun t29_1 w =>
        ld w t29_1 fun t30_1 w =>
        add w 1 t6_1 fun t31_1 w =>
        ld w t31_1 fun t32_1 w =>
        bldS w 3 2 1 [.int .i64 0] [(0, t30_1), (1, t32_1)] fun t33_1 w =>
        call Tryz.prog w 190 [t20_1, t33_1] fun t34_1 w =>
        bin w .add (at' s2 0) (.int .i64 1) fun t35_1 w =>
        next2 [t35_1] w
      ) (
        call Tryz.prog w 191 [t20_1] fun t38_1 w =>
        tup w 0 t38_1 fun t39_1 w =>
        tup w 1 t38_1 fun t40_1 w =>
        eq w true true .iface t40_1 .nilIface fun t42_1 w =>
        Br t42_1 (
          k (.tuple #[(.slice none 0 0), (.iface 149 (.int .i64 70))]) w
        ) (
          call Tryz.prog w 192 [(.int .u8 2), t39_1] fun t45_1 w =>
          tup w 0 t45_1 fun t46_1 w =>
          tup w 1 t45_1 fun t47_1 w =>
          k (.tuple #[t46_1, t47_1]) w
        )
      )
    )
  )
theorem b_node_Node_Bytes_eq (t0 : Value) (k : K) (w : World) : b_node_Node_Bytes t0 k w = bodyW Tryz.prog [(5, [24])] Tryz.f156 [t0] k w := by kernel_rfl
/-- (portage/node.Node).Bytes -/
theorem b_node_Node_Bytes_walk {t0 : Value} {k : K} {w : World} (h : b_node_Node_Bytes t0 k w) : call Tryz.prog w 156 [t0] k :=
  calls_of_body Tryz.func156 (b_node_Node_Bytes_eq t0 k w ▸ h) (Nat.le_of_ble_eq_true rfl)
/-! ### (portage/node.Node).Change -/
def b_node_Node_Change (t0 t1 t2 : Value) (k : K) (w : World) : Prop :=
  box w 119 t0 fun t3 w =>
  ldN w 3 t3 fun t10 w =>
  call Tryz.prog w 102 [t10] fun t11 w =>
  eq w true true .iface t11 .nilIface fun t12 w =>
  Br t12 (
    k (.tuple #[(.slice none 0 0), (.iface 149 (.int .i64 70))]) w
  ) (
    bin w .lss t1 (.int .i64 0) fun t16 w =>
    Br t16 (
      k (.tuple #[(.slice none 0 0), (.iface 149 (.int .i64 80))]) w
    ) (
      add w 1 t3 fun t19 w =>
      ld w t19 fun t20 w =>
      len w t20 fun t21 w =>
      bin w .geq t1 t21 fun t22 w =>
      Br t22 (
        k (.tuple #[(.slice none 0 0), (.iface 149 (.int .i64 80))]) w
      ) (
        len w t2 fun t26 w =>
        bin w .gtr t26 (.int .i64 2) fun t27 w =>
        Br t27 (
          k (.tuple #[(.slice none 0 0), (.iface 149 (.int .i64 80))]) w
        ) (
          ldN w 3 t3 fun t30 w =>
          call Tryz.prog w 155 [t30] fun t31 w =>
          bin w .add t1 (.int .i64 1) fun t34 w =>
          call Tryz.prog w 230 [t31, t1, t34, t2] fun t36 w =>
          call Tryz.prog w 154 [t36] fun t38 w =>
          un w .not t38 fun t39 w =>
          Br t39 (
            k (.tuple #[(.slice none 0 0), (.iface 149 (.int .i64 80))]) w
          ) (
            ldN w 3 t3 fun t41 w =>
            call Tryz.prog w 166 [t41, t36] fun t43 w =>
            k (.tuple #[t43, .nilIface]) w
          )
        )
      )
    )
  )
theorem b_node_Node_Change_eq (t0 t1 t2 : Value) (k : K) (w : World) : b_node_Node_Change t0 t1 t2 k w = bodyW Tryz.prog [] Tryz.f199 [t0, t1, t2] k w := by kernel_rfl
/-- (portage/node.Node).Change -/
theorem b_node_Node_Change_walk {t0 t1 t2 : Value} {k : K} {w : World} (h : b_node_Node_Change t0 t1 t2 k w) : call Tryz.prog w 199 [t0, t1, t2] k :=
  calls_of_body Tryz.func199 (b_node_Node_Change_eq t0 t1 t2 k w ▸ h) (Nat.le_of_ble_eq_true rfl)
/-! ### (portage/node.Node).Check -/
def b_node_Node_Check (t0 : Value) (k : K) (w : World) : Prop :=
  box w 119 t0 fun t1 w =>
  add w 0 t1 fun t4 w =>
  ld w t4 fun t5 w =>
  bin w .lss t5 (.int .i64 0) fun t6 w =>
  Br t6 (
    k (.iface 149 (.int .i64 70)) w
  ) (
    add w 0 t1 fun t8 w =>
    ld w t8 fun t9 w =>
    bin w .gtr t9 (.int .i64 20) fun t10 w =>
    Br t10 (
      k (.iface 149 (.int .i64 70)) w
    ) (
      add w 1 t1 fun t13 w =>
      ld w t13 fun t14 w =>
      len w t14 fun t15 w =>
      add w 2 t1 fun t16 w =>
      ld w t16 fun t17 w =>
      len w t17 fun t18 w =>
      bin w .neq t15 t18 fun t19 w =>
      Br t19 (
        k (.iface 149 (.int .i64 70)) w
      ) (
        add w 1 t1 fun t23 w =>
        ld w t23 fun t24 w =>
        len w t24 fun t25 w =>
        bin w .lss t25 (.int .i64 1) fun t26 w =>
        Br t26 (
          k (.iface 149 (.int .i64 70)) w
        ) (
          add w 1 t1 fun t28 w =>
          ld w t28 fun t29 w =>
          len w t29 fun t30 w =>
          bin w .gtr t30 (.int .i64 7) fun t31 w =>
          Br t31 (
            k (.iface 149 (.int .i64 70)) w
          ) (
            ldN w 3 t1 fun t34 w =>
            call Tryz.prog w 155 [t34] fun t35 w =>
            call Tryz.prog w 154 [t35] fun t36 w =>
            un w .not t36 fun t37 w =>
            Br t37 (
              k (.iface 149 (.int .i64 70)) w
            ) (
              k .nilIface w
            )
          )
        )
      )
    )
  )
theorem b_node_Node_Check_eq (t0 : Value) (k : K) (w : World) : b_node_Node_Check t0 k w = bodyW Tryz.prog [] Tryz.f102 [t0] k w := by kernel_rfl
/-- (portage/node.Node).Check -/
theorem b_node_Node_Check_walk {t0 : Value} {k : K} {w : World} (h : b_node_Node_Check t0 k w) : call Tryz.prog w 102 [t0] k :=
  calls_of_body Tryz.func102 (b_node_Node_Check_eq t0 k w ▸ h) (Nat.le_of_ble_eq_true rfl)
/-! ### (portage/node.Node).Drop -/
def b_node_Node_Drop (t0 t1 : Value) (k : K) (w : World) : Prop :=
  box w 119 t0 fun t2 w =>
  new w 119 #[.int .i64 0, .slice none 0 0, .slice none 0 0] fun t4 w =>
  ldN w 3 t2 fun t8 w =>
  call Tryz.prog w 102 [t8] fun t9 w =>
  eq w true true .iface t9 .nilIface fun t10 w =>
  Br t10 (
    bld w #[(0, 1), (1, 1), (2, 1)] #[.int .i64 0, .slice none 0 0, .slice none 0 0] [] fun t11 w =>
    st w 3 t4 t11 fun _ w =>
    ldN w 3 t4 fun t100004 w =>
    k (.tuple #[t100004, (.iface 149 (.int .i64 70))]) w
  ) (
    ldN w 3 t2 fun t14 w =>
    call Tryz.prog w 114 [t14, t1] fun t16 w =>
    tup w 0 t16 fun t17 w =>
    tup w 1 t16 fun t18 w =>
    un w .not t18 fun t20 w =>
    Br t20 (
      bld w #[(0, 1), (1, 1), (2, 1)] #[.int .i64 0, .slice none 0 0, .slice none 0 0] [] fun t21 w =>
      st w 3 t4 t21 fun _ w =>
      ldN w 3 t4 fun t100004_1 w =>
      k (.tuple #[t100004_1, (.iface 149 (.int .i64 81))]) w
    ) (
      drawS w fun S w =>
      bin w .add t17 (.int .i64 1) fun t28 w =>
      held S w (fun w k => ldN w 3 t2 k) fun t23 w =>
      held S w (fun w k => ldN w 3 t2 k) fun t24 w =>
      call Tryz.prog w 155 [t24] fun t25 w =>
      S w ∧
      call Tryz.prog w 179 [t25, t17, t28] fun t29 w =>
      S w ∧
      call Tryz.prog w 178 [t23, t29] fun t30 w =>
      S w ∧
      st w 3 t4 t30 fun _ w =>
      ldN w 3 t4 fun t100004_2 w =>
      k (.tuple #[t100004_2, .nilIface]) w
    )
  )
theorem b_node_Node_Drop_eq (t0 t1 : Value) (k : K) (w : World) : b_node_Node_Drop t0 t1 k w = bodyW Tryz.prog [] Tryz.f122 [t0, t1] k w := by kernel_rfl
/-- (portage/node.Node).Drop -/
theorem b_node_Node_Drop_walk {t0 t1 : Value} {k : K} {w : World} (h : b_node_Node_Drop t0 t1 k w) : call Tryz.prog w 122 [t0, t1] k :=
  calls_of_body Tryz.func122 (b_node_Node_Drop_eq t0 t1 k w ▸ h) (Nat.le_of_ble_eq_true rfl)
/-! ### (portage/node.Node).Find -/
def b_node_Node_Find (t0 t1 : Value) (k : K) (w : World) : Prop :=
  box w 119 t0 fun t2 w =>
  add w 1 t2 fun t9 w =>
  ld w t9 fun t10 w =>
  call Tryz.prog w 173 [t10, t1] fun t12 w =>
  tup w 0 t12 fun t13 w =>
  tup w 1 t12 fun t14 w =>
  Br t14 (
    k (.tuple #[t13, (.bool true)]) w
  ) (
    bin w .sub t13 (.int .i64 1) fun t18 w =>
    k (.tuple #[t18, (.bool false)]) w
  )
theorem b_node_Node_Find_eq (t0 t1 : Value) (k : K) (w : World) : b_node_Node_Find t0 t1 k w = bodyW Tryz.prog [] Tryz.f114 [t0, t1] k w := by kernel_rfl
/-- (portage/node.Node).Find -/
theorem b_node_Node_Find_walk {t0 t1 : Value} {k : K} {w : World} (h : b_node_Node_Find t0 t1 k w) : call Tryz.prog w 114 [t0, t1] k :=
  calls_of_body Tryz.func114 (b_node_Node_Find_eq t0 t1 k w ▸ h) (Nat.le_of_ble_eq_true rfl)
/-! ### (portage/node.Node).Put -/
def b_node_Node_Put (t0 t1 t2 : Value) (k : K) (w : World) : Prop :=
  box w 119 t0 fun t3 w =>
  bld w #[(0, 1), (1, 1)] #[.int .i64 0, .int .i64 0] [(0, t1), (1, t2)] fun t14 w =>
  new w 151 #[.int .i64 0, .int .i64 0] fun t8 w =>
  st w 2 t8 t14 fun _ w =>
  ldN w 3 t3 fun t16 w =>
  call Tryz.prog w 102 [t16] fun t17 w =>
  eq w true true .iface t17 .nilIface fun t18 w =>
  Br t18 (
    k (.tuple #[(.slice none 0 0), (.iface 149 (.int .i64 70))]) w
  ) (
    ldN w 2 t8 fun t21 w =>
    call Tryz.prog w 164 [t21] fun t22 w =>
    un w .not t22 fun t23 w =>
    Br t23 (
      k (.tuple #[(.slice none 0 0), (.iface 149 (.int .i64 80))]) w
    ) (
      ldN w 3 t3 fun t25 w =>
      call Tryz.prog w 155 [t25] fun t26 w =>
      ldN w 3 t3 fun t28 w =>
      call Tryz.prog w 114 [t28, t1] fun t30 w =>
      tup w 0 t30 fun t31 w =>
      tup w 1 t30 fun t32 w =>
      Br t32 (
        ldN w 2 t8 fun t36 w =>
        idx w 2 t26 t31 fun t37 w =>
        st w 2 t37 t36 fun _ w =>
        ldN w 3 t3 fun t44 w =>
        call Tryz.prog w 166 [t44, t26] fun t46 w =>
        k (.tuple #[t46, .nilIface]) w
      ) (
        bin w .add t31 (.int .i64 1) fun t40 w =>
        ldN w 2 t8 fun t41 w =>
        bldS w 151 1 2 [.int .i64 0, .int .i64 0] [(0, t41)] fun t42 w =>
        call Tryz.prog w 165 [t26, t40, t42] fun t43 w =>
        ldN w 3 t3 fun t44_1 w =>
        call Tryz.prog w 166 [t44_1, t43] fun t46_1 w =>
        k (.tuple #[t46_1, .nilIface]) w
      )
    )
  )
theorem b_node_Node_Put_eq (t0 t1 t2 : Value) (k : K) (w : World) : b_node_Node_Put t0 t1 t2 k w = bodyW Tryz.prog [] Tryz.f106 [t0, t1, t2] k w := by kernel_rfl
/-- (portage/node.Node).Put -/
theorem b_node_Node_Put_walk {t0 t1 t2 : Value} {k : K} {w : World} (h : b_node_Node_Put t0 t1 t2 k w) : call Tryz.prog w 106 [t0, t1, t2] k :=
  calls_of_body Tryz.func106 (b_node_Node_Put_eq t0 t1 t2 k w ▸ h) (Nat.le_of_ble_eq_true rfl)
/-! ### (portage/node.Node).cut -/
def b_node_Node_cut (t0 t1 : Value) (k : K) (w : World) : Prop :=
  box w 119 t0 fun t2 w =>
  len w t1 fun t7 w =>
  bin w .eql t7 (.int .i64 0) fun t8 w =>
  Br t8 (
    k (.slice none 0 0) w
  ) (
    len w t1 fun t11 w =>
    bin w .leq t11 (.int .i64 7) fun t12 w =>
    Br t12 (
      ldN w 3 t2 fun t13 w =>
      call Tryz.prog w 178 [t13, t1] fun t15 w =>
      bldS w 119 1 3 [.int .i64 0, .slice none 0 0, .slice none 0 0] [(0, t15)] fun t16 w =>
      k t16 w
    ) (
      drawS w fun S w =>
      cut w 2 t1 none (some (.int .i64 4)) none fun t19 w =>
      cut w 2 t1 (some (.int .i64 4)) none none fun t23 w =>
      held S w (fun w k => ldN w 3 t2 k) fun t17 w =>
      held S w (fun w k => ldN w 3 t2 k) fun t21 w =>
      call Tryz.prog w 178 [t17, t19] fun t20 w =>
      S w ∧
      call Tryz.prog w 178 [t21, t23] fun t24 w =>
      bldS w 119 2 3 [.int .i64 0, .slice none 0 0, .slice none 0 0] [(0, t20), (1, t24)] fun t25 w =>
      k t25 w
    )
  )
theorem b_node_Node_cut_eq (t0 t1 : Value) (k : K) (w : World) : b_node_Node_cut t0 t1 k w = bodyW Tryz.prog [] Tryz.f166 [t0, t1] k w := by kernel_rfl
/-- (portage/node.Node).cut -/
theorem b_node_Node_cut_walk {t0 t1 : Value} {k : K} {w : World} (h : b_node_Node_cut t0 t1 k w) : call Tryz.prog w 166 [t0, t1] k :=
  calls_of_body Tryz.func166 (b_node_Node_cut_eq t0 t1 k w ▸ h) (Nat.le_of_ble_eq_true rfl)
/-! ### (portage/node.Node).of -/
def b_node_Node_of (t0 t1 : Value) (k : K) (w : World) : Prop :=
  box w 119 t0 fun t2 w =>
  new w 119 #[.int .i64 0, .slice none 0 0, .slice none 0 0] fun t4 w =>
  add w 0 t2 fun t8 w =>
  ld w t8 fun t9 w =>
  bld w #[(0, 1), (1, 1), (2, 1)] #[.int .i64 0, .slice none 0 0, .slice none 0 0] [(0, t9)] fun t10 w =>
  new w 119 #[.int .i64 0, .slice none 0 0, .slice none 0 0] fun t5 w =>
  st w 3 t5 t10 fun _ w =>
  len w t1 fun t12 w =>
  loop [(.int .i64 0)] w fun J1 s1 next1 w =>
  bin w .lss (at' s1 0) t12 fun t14 w =>
  Br t14 (
    idx w 2 t1 (at' s1 0) fun t15 w =>
    ldN w 2 t15 fun t16 w =>
    new w 151 #[.int .i64 0, .int .i64 0] fun t7 w =>
    st w 2 t7 t16 fun _ w =>
    add w 1 t5 fun t17 w =>
    ld w t17 fun t18 w =>
    add w 0 t7 fun t19 w =>
    ld w t19 fun t20 w =>
    bldS w 3 1 1 [.int .i64 0] [(0, t20)] fun t21 w =>
    app w 3 1 8 #[.int .i64 0] t18 t21 fun t22 w =>
    add w 1 t5 fun t23 w =>
    st w 1 t23 t22 fun _ w =>
    add w 2 t5 fun t24 w =>
    ld w t24 fun t25 w =>
    add w 1 t7 fun t26 w =>
    ld w t26 fun t27 w =>
    bldS w 3 1 1 [.int .i64 0] [(0, t27)] fun t28 w =>
    app w 3 1 8 #[.int .i64 0] t25 t28 fun t29 w =>
    add w 2 t5 fun t30 w =>
    st w 1 t30 t29 fun _ w =>
    bin w .add (at' s1 0) (.int .i64 1) fun t31 w =>
    next1 [t31] w
  ) (
    ldN w 3 t5 fun t32 w =>
    st w 3 t4 t32 fun _ w =>
    ldN w 3 t4 fun t100004 w =>
    k t100004 w
  )
theorem b_node_Node_of_eq (t0 t1 : Value) (k : K) (w : World) : b_node_Node_of t0 t1 k w = bodyW Tryz.prog [(3, [13])] Tryz.f178 [t0, t1] k w := by kernel_rfl
/-- (portage/node.Node).of -/
theorem b_node_Node_of_walk {t0 t1 : Value} {k : K} {w : World} (h : b_node_Node_of t0 t1 k w) : call Tryz.prog w 178 [t0, t1] k :=
  calls_of_body Tryz.func178 (b_node_Node_of_eq t0 t1 k w ▸ h) (Nat.le_of_ble_eq_true rfl)
/-! ### (portage/node.Node).pairs -/
def b_node_Node_pairs (t0 : Value) (k : K) (w : World) : Prop :=
  box w 119 t0 fun t1 w =>
  add w 1 t1 fun t6 w =>
  ld w t6 fun t7 w =>
  len w t7 fun t8 w =>
  loop [(.slice none 0 0), (.int .i64 0)] w fun J1 s1 next1 w =>
  bin w .lss (at' s1 1) t8 fun t10 w =>
  Br t10 (
    idx w 1 t7 (at' s1 1) fun t12 w =>
    ld w t12 fun t13 w =>
    add w 2 t1 fun t16 w =>
    ld w t16 fun t17 w =>
    idx w 1 t17 (at' s1 1) fun t19 w =>
    ld w t19 fun t20 w =>
    bld w #[(0, 1), (1, 1)] #[.int .i64 0, .int .i64 0] [(0, t13), (1, t20)] fun t21 w =>
    bldS w 151 1 2 [.int .i64 0, .int .i64 0] [(0, t21)] fun t22 w =>
    app w 151 2 16 #[.int .i64 0, .int .i64 0] (at' s1 0) t22 fun t23 w =>
    bin w .add (at' s1 1) (.int .i64 1) fun t24 w =>
    next1 [t23, t24] w
  ) (
    k (at' s1 0) w
  )
theorem b_node_Node_pairs_eq (t0 : Value) (k : K) (w : World) : b_node_Node_pairs t0 k w = bodyW Tryz.prog [(3, [3, 9])] Tryz.f155 [t0] k w := by kernel_rfl
/-- (portage/node.Node).pairs -/
theorem b_node_Node_pairs_walk {t0 : Value} {k : K} {w : World} (h : b_node_Node_pairs t0 k w) : call Tryz.prog w 155 [t0] k :=
  calls_of_body Tryz.func155 (b_node_Node_pairs_eq t0 k w ▸ h) (Nat.le_of_ble_eq_true rfl)
/-! ### (portage/node.Pair).right -/
def b_node_Pair_right (t0 : Value) (k : K) (w : World) : Prop :=
  box w 151 t0 fun t1 w =>
  add w 0 t1 fun t3 w =>
  ld w t3 fun t4 w =>
  bin w .geq t4 (.int .i64 0) fun t5 w =>
  Br t5 (
    add w 0 t1 fun t7 w =>
    ld w t7 fun t8 w =>
    bin w .leq t8 (.int .i64 1099511627776) fun t9 w =>
    Br t9 (
      add w 1 t1 fun t12 w =>
      ld w t12 fun t13 w =>
      bin w .geq t13 (.int .i64 1) fun t14 w =>
      Br t14 (
        add w 1 t1 fun t17 w =>
        ld w t17 fun t18 w =>
        bin w .leq t18 (.int .i64 2305843009213693952) fun t19 w =>
        k t19 w
      ) (
        k (.bool false) w
      )
    ) (
      k (.bool false) w
    )
  ) (
    k (.bool false) w
  )
theorem b_node_Pair_right_eq (t0 : Value) (k : K) (w : World) : b_node_Pair_right t0 k w = bodyW Tryz.prog [] Tryz.f164 [t0] k w := by kernel_rfl
/-- (portage/node.Pair).right -/
theorem b_node_Pair_right_walk {t0 : Value} {k : K} {w : World} (h : b_node_Pair_right t0 k w) : call Tryz.prog w 164 [t0] k :=
  calls_of_body Tryz.func164 (b_node_Pair_right_eq t0 k w ▸ h) (Nat.le_of_ble_eq_true rfl)
/-! ### portage/node.Parse -/
def b_node_Parse (t0 : Value) (k : K) (w : World) : Prop :=
  new w 119 #[.int .i64 0, .slice none 0 0, .slice none 0 0] fun t2 w =>
  call Tryz.prog w 240 [(.int .u8 2), t0] fun t12 w =>
  tup w 0 t12 fun t13 w =>
  tup w 1 t12 fun t14 w =>
  eq w true true .iface t14 .nilIface fun t16 w =>
  Br t16 (
    bld w #[(0, 1), (1, 1), (2, 1)] #[.int .i64 0, .slice none 0 0, .slice none 0 0] [] fun t17 w =>
    st w 3 t2 t17 fun _ w =>
    ldN w 3 t2 fun t100002 w =>
    k (.tuple #[t100002, (.iface 149 (.int .i64 70))]) w
  ) (
    call Tryz.prog w 241 [t13] fun t20 w =>
    call Tryz.prog w 242 [t20] fun t22 w =>
    bld w #[(0, 1), (1, 1), (2, 1)] #[.int .i64 0, .slice none 0 0, .slice none 0 0] [(0, t22)] fun t23 w =>
    new w 119 #[.int .i64 0, .slice none 0 0, .slice none 0 0] fun t7 w =>
    st w 3 t7 t23 fun _ w =>
    call Tryz.prog w 242 [t20] fun t25 w =>
    ext w false t25 (.int .i64 7) fun t26 w =>
    loop [(.int .i64 0)] w fun J1 s1 next1 w =>
    bin w .lss (at' s1 0) t26 fun t28 w =>
    Br t28 (
      drawS w fun S w =>
      add w 1 t7 fun t29 w =>
      held S w (fun w k => ld w t29 k) fun t30 w =>
      call Tryz.prog w 243 [t20] fun t32 w =>
      S w ∧
      bldS w 3 1 1 [.int .i64 0] [(0, t32)] fun t33 w =>
      S w ∧
      app w 3 1 8 #[.int .i64 0] t30 t33 fun t34 w =>
      add w 1 t7 fun t35 w =>
      st w 1 t35 t34 fun _ w =>
      drawS w fun S w =>
      add w 2 t7 fun t36 w =>
      held S w (fun w k => ld w t36 k) fun t37 w =>
      call Tryz.prog w 243 [t20] fun t39 w =>
      S w ∧
      bldS w 3 1 1 [.int .i64 0] [(0, t39)] fun t40 w =>
      S w ∧
      app w 3 1 8 #[.int .i64 0] t37 t40 fun t41 w =>
      add w 2 t7 fun t42 w =>
      st w 1 t42 t41 fun _ w =>
      bin w .add (at' s1 0) (.int .i64 1) fun t43 w =>
      next1 [t43] w
    ) (
      ldN w 3 t7 fun t45 w =>
      call Tryz.prog w 156 [t45] fun t46 w =>
      tup w 0 t46 fun t47 w =>
      tup w 1 t46 fun t48 w =>
      eq w true true .iface t48 .nilIface fun t50 w =>
      Br t50 (
        bld w #[(0, 1), (1, 1), (2, 1)] #[.int .i64 0, .slice none 0 0, .slice none 0 0] [] fun t57 w =>
        st w 3 t2 t57 fun _ w =>
        ldN w 3 t2 fun t100002_1 w =>
        k (.tuple #[t100002_1, (.iface 149 (.int .i64 70))]) w
      ) (
        call Tryz.prog w 244 [t47, t0] fun t54 w =>
        un w .not t54 fun t55 w =>
        Br t55 (
          bld w #[(0, 1), (1, 1), (2, 1)] #[.int .i64 0, .slice none 0 0, .slice none 0 0] [] fun t57_1 w =>
          st w 3 t2 t57_1 fun _ w =>
          ldN w 3 t2 fun t100002_2 w =>
          k (.tuple #[t100002_2, (.iface 149 (.int .i64 70))]) w
        ) (
          ldN w 3 t7 fun t59 w =>
          st w 3 t2 t59 fun _ w =>
          ldN w 3 t2 fun t100002_3 w =>
          k (.tuple #[t100002_3, .nilIface]) w
        )
      )
    )
  )
theorem b_node_Parse_eq (t0 : Value) (k : K) (w : World) : b_node_Parse t0 k w = bodyW Tryz.prog [(7, [27])] Tryz.f220 [t0] k w := by kernel_rfl
/-- portage/node.Parse -/
theorem b_node_Parse_walk {t0 : Value} {k : K} {w : World} (h : b_node_Parse t0 k w) : call Tryz.prog w 220 [t0] k :=
  calls_of_body Tryz.func220 (b_node_Parse_eq t0 k w ▸ h) (Nat.le_of_ble_eq_true rfl)
/-! ### portage/node.ordered -/
def b_node_ordered (t0 : Value) (k : K) (w : World) : Prop :=
  len w t0 fun t6 w =>
  loop [(.int .i64 0)] w fun J1 s1 next1 w =>
  bin w .lss (at' s1 0) t6 fun t8 w =>
  Br t8 (
    idx w 2 t0 (at' s1 0) fun t10 w =>
    ldN w 2 t10 fun t11 w =>
    new w 151 #[.int .i64 0, .int .i64 0] fun t4 w =>
    st w 2 t4 t11 fun _ w =>
    drawS w fun S w =>
    held S w (fun w k => ldN w 2 t4 k) fun t12 w =>
    call Tryz.prog w 164 [t12] fun t13 w =>
    S w ∧
    un w .not t13 fun t14 w =>
    Br t14 (
      k (.bool false) w
    ) (
      bin w .gtr (at' s1 0) (.int .i64 0) fun t17 w =>
      Br t17 (
        bin w .sub (at' s1 0) (.int .i64 1) fun t21 w =>
        idx w 2 t0 t21 fun t22 w =>
        add w 0 t22 fun t23 w =>
        add w 0 t4 fun t25 w =>
        held S w (fun w k => ld w t23 k) fun t24 w =>
        held S w (fun w k => ld w t25 k) fun t26 w =>
        bin w .geq t24 t26 fun t27 w =>
        Br t27 (
          k (.bool false) w
        ) (
          bin w .add (at' s1 0) (.int .i64 1) fun t30 w =>
          next1 [t30] w
        )
      ) (
        bin w .add (at' s1 0) (.int .i64 1) fun t30_1 w =>
        next1 [t30_1] w
      )
    )
  ) (
    k (.bool true) w
  )
theorem b_node_ordered_eq (t0 : Value) (k : K) (w : World) : b_node_ordered t0 k w = bodyW Tryz.prog [(2, [7])] Tryz.f154 [t0] k w := by kernel_rfl
/-- portage/node.ordered -/
theorem b_node_ordered_walk {t0 : Value} {k : K} {w : World} (h : b_node_ordered t0 k w) : call Tryz.prog w 154 [t0] k :=
  calls_of_body Tryz.func154 (b_node_ordered_eq t0 k w ▸ h) (Nat.le_of_ble_eq_true rfl)
end Go.Proofs.YtemenmmekddjaaaGreatDoor
