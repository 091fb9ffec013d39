/- The bodies of functions, written out by program from the loaded translation; each is held against it by the kernel. No condition. -/
import Derived.Test.YtemenmmekddjaaaGreatDoorProg
import Derived.KernelRfl
import Derived.Test.YtemenmmekddjaaaGreatDoorJ03
set_option linter.all false
set_option linter.unusedVariables false
set_option linter.unusedSimpArgs false
set_option linter.unnecessarySimpa false
set_option linter.unusedSectionVars false
set_option linter.constructorNameAsVariable false
namespace Go.Proofs.YtemenmmekddjaaaGreatDoor
open Go Go.Wx Go.W
set_option maxRecDepth 100000
set_option linter.unusedVariables false
/-! ### (portage/roster.Entry).right -/
def b_roster_Entry_rightj2 (t1_2 : Value) (k : K) (w : World) : Prop :=
  add w 1 t1_2 fun t13 w =>
  ld w t13 fun t14 w =>
  bin w .geq t14 (.int .i64 0) fun t15 w =>
  Br t15 (
    add w 1 t1_2 fun t17 w =>
    ld w t17 fun t18 w =>
    bin w .leq t18 (.int .i64 4096) fun t19 w =>
    k t19 w
  ) (
    k (.bool false) w
  )
def b_roster_Entry_rightj1 (t1_1 t4_1 t5 : Value) (k : K) (w : World) : Prop :=
  Br t5 (
    add w 1 t1_1 fun t10 w =>
    ld w t10 fun t11 w =>
    bin w .leq t11 (.int .i64 2) fun t12 w =>
    Br t12 (
      k (.bool false) w
    ) (
      b_roster_Entry_rightj2 t1_1 k w
    )
  ) (
    bin w .eql t4_1 (.int .i64 3) fun t9 w =>
    Br t9 (
      b_roster_Entry_rightj2 t1_1 k w
    ) (
      k (.bool false) w
    )
  )
def b_roster_Entry_right (t0 : Value) (k : K) (w : World) : Prop :=
  box w 95 t0 fun t1 w =>
  add w 0 t1 fun t3 w =>
  ld w t3 fun t4 w =>
  bin w .eql t4 (.int .i64 1) fun t6 w =>
  Br t6 (
    b_roster_Entry_rightj1 t1 t4 t6 k w
  ) (
    bin w .eql t4 (.int .i64 2) fun t7 w =>
    b_roster_Entry_rightj1 t1 t4 t7 k w
  )
theorem b_roster_Entry_right_eq (t0 : Value) (k : K) (w : World) : b_roster_Entry_right t0 k w = bodyW Tryz.prog [] Tryz.f139 [t0] k w := by kernel_rfl
/-- (portage/roster.Entry).right -/
theorem b_roster_Entry_right_walk {t0 : Value} {k : K} {w : World} (h : b_roster_Entry_right t0 k w) : call Tryz.prog w 139 [t0] k :=
  calls_of_body Tryz.func139 (b_roster_Entry_right_eq t0 k w ▸ h) (Nat.le_of_ble_eq_true rfl)
/-! ### (portage/roster.Roster).Actives -/
def b_roster_Roster_Actives (t0 : Value) (k : K) (w : World) : Prop :=
  box w 66 t0 fun t1 w =>
  ldN w 1 t1 fun t3 w =>
  call Tryz.prog w 118 [t3, (.func (.func 119) #[] #[])] fun t4 w =>
  k t4 w
theorem b_roster_Roster_Actives_eq (t0 : Value) (k : K) (w : World) : b_roster_Roster_Actives t0 k w = bodyW Tryz.prog [] Tryz.f65 [t0] k w := by kernel_rfl
/-- (portage/roster.Roster).Actives -/
theorem b_roster_Roster_Actives_walk {t0 : Value} {k : K} {w : World} (h : b_roster_Roster_Actives t0 k w) : call Tryz.prog w 65 [t0] k :=
  calls_of_body Tryz.func65 (b_roster_Roster_Actives_eq t0 k w ▸ h) (Nat.le_of_ble_eq_true rfl)
/-! ### (portage/roster.Roster).Actives$1 -/
def b_roster_Roster_Actives_c1 (t0 : Value) (k : K) (w : World) : Prop :=
  box w 95 t0 fun t1 w =>
  add w 0 t1 fun t3 w =>
  ld w t3 fun t4 w =>
  bin w .eql t4 (.int .i64 1) fun t5 w =>
  k t5 w
theorem b_roster_Roster_Actives_c1_eq (t0 : Value) (k : K) (w : World) : b_roster_Roster_Actives_c1 t0 k w = bodyW Tryz.prog [] Tryz.f119 [t0] k w := by kernel_rfl
/-- (portage/roster.Roster).Actives$1 -/
theorem b_roster_Roster_Actives_c1_walk {t0 : Value} {k : K} {w : World} (h : b_roster_Roster_Actives_c1 t0 k w) : call Tryz.prog w 119 [t0] k :=
  calls_of_body Tryz.func119 (b_roster_Roster_Actives_c1_eq t0 k w ▸ h) (Nat.le_of_ble_eq_true rfl)
/-! ### (portage/roster.Roster).Check -/
def b_roster_Roster_Check (t0 : Value) (k : K) (w : World) : Prop :=
  box w 66 t0 fun t1 w =>
  add w 0 t1 fun t3 w =>
  ld w t3 fun t4 w =>
  len w t4 fun t5 w =>
  bin w .gtr t5 (.int .i64 8) fun t6 w =>
  Br t6 (
    k (.iface 149 (.int .i64 14)) w
  ) (
    add w 0 t1 fun t8 w =>
    ld w t8 fun t9 w =>
    call Tryz.prog w 137 [t9, (.func (.func 138) #[] #[])] fun t10 w =>
    Br t10 (
      k (.iface 149 (.int .i64 14)) w
    ) (
      k .nilIface w
    )
  )
theorem b_roster_Roster_Check_eq (t0 : Value) (k : K) (w : World) : b_roster_Roster_Check t0 k w = bodyW Tryz.prog [] Tryz.f89 [t0] k w := by kernel_rfl
/-- (portage/roster.Roster).Check -/
theorem b_roster_Roster_Check_walk {t0 : Value} {k : K} {w : World} (h : b_roster_Roster_Check t0 k w) : call Tryz.prog w 89 [t0] k :=
  calls_of_body Tryz.func89 (b_roster_Roster_Check_eq t0 k w ▸ h) (Nat.le_of_ble_eq_true rfl)
/-! ### (portage/roster.Roster).Check$1 -/
def b_roster_Roster_Check_c1 (t0 : Value) (k : K) (w : World) : Prop :=
  box w 95 t0 fun t1 w =>
  ldN w 2 t1 fun t3 w =>
  call Tryz.prog w 139 [t3] fun t4 w =>
  un w .not t4 fun t5 w =>
  k t5 w
theorem b_roster_Roster_Check_c1_eq (t0 : Value) (k : K) (w : World) : b_roster_Roster_Check_c1 t0 k w = bodyW Tryz.prog [] Tryz.f138 [t0] k w := by kernel_rfl
/-- (portage/roster.Roster).Check$1 -/
theorem b_roster_Roster_Check_c1_walk {t0 : Value} {k : K} {w : World} (h : b_roster_Roster_Check_c1 t0 k w) : call Tryz.prog w 138 [t0] k :=
  calls_of_body Tryz.func138 (b_roster_Roster_Check_c1_eq t0 k w ▸ h) (Nat.le_of_ble_eq_true rfl)
/-! ### (portage/roster.Roster).Drain -/
def b_roster_Roster_Drain (t0 t1 : Value) (k : K) (w : World) : Prop :=
  box w 66 t0 fun t2 w =>
  new w 66 #[.slice none 0 0] fun t4 w =>
  drawS w fun S w =>
  held S w (fun w k => ldN w 1 t2 k) fun t9 w =>
  (
    call Tryz.prog w 88 [(.int .i64 1), (.int .i64 2)] fun t11 w =>
    S w ∧
    (
      call Tryz.prog w 87 [t9, t1, t11] fun t12 w =>
      tup w 0 t12 fun t13 w =>
      tup w 1 t12 fun t14 w =>
      new w 66 #[.slice none 0 0] fun t6 w =>
      S w ∧
      st w 1 t6 t13 fun _ w =>
      eq w false true .iface t14 .nilIface fun t16 w =>
      Br t16 (
        ldN w 1 t6 fun t18 w =>
        call Tryz.prog w 65 [t18] fun t19 w =>
        len w t19 fun t20 w =>
        bin w .eql t20 (.int .i64 0) fun t21 w =>
        Br t21 (
          bld w #[(0, 1)] #[.slice none 0 0] [] fun t23 w =>
          st w 1 t4 t23 fun _ w =>
          ldN w 1 t4 fun t100004 w =>
          k (.tuple #[t100004, (.iface 149 (.int .i64 30))]) w
        ) (
          ldN w 1 t6 fun t25 w =>
          st w 1 t4 t25 fun _ w =>
          ldN w 1 t4 fun t100004_1 w =>
          k (.tuple #[t100004_1, t14]) w
        )
      ) (
        ldN w 1 t6 fun t25_1 w =>
        st w 1 t4 t25_1 fun _ w =>
        ldN w 1 t4 fun t100004_2 w =>
        k (.tuple #[t100004_2, t14]) w
      )
    ) ∧
    (
      new w 66 #[.slice none 0 0] fun t6_1 w =>
      S w ∧
      call Tryz.prog w 87 [t9, t1, t11] fun t12_1 w =>
      tup w 0 t12_1 fun t13_1 w =>
      tup w 1 t12_1 fun t14_1 w =>
      st w 1 t6_1 t13_1 fun _ w =>
      eq w false true .iface t14_1 .nilIface fun t16_1 w =>
      Br t16_1 (
        ldN w 1 t6_1 fun t18_1 w =>
        call Tryz.prog w 65 [t18_1] fun t19_1 w =>
        len w t19_1 fun t20_1 w =>
        bin w .eql t20_1 (.int .i64 0) fun t21_1 w =>
        Br t21_1 (
          bld w #[(0, 1)] #[.slice none 0 0] [] fun t23_1 w =>
          st w 1 t4 t23_1 fun _ w =>
          ldN w 1 t4 fun t100004_3 w =>
          k (.tuple #[t100004_3, (.iface 149 (.int .i64 30))]) w
        ) (
          ldN w 1 t6_1 fun t25_2 w =>
          st w 1 t4 t25_2 fun _ w =>
          ldN w 1 t4 fun t100004_4 w =>
          k (.tuple #[t100004_4, t14_1]) w
        )
      ) (
        ldN w 1 t6_1 fun t25_3 w =>
        st w 1 t4 t25_3 fun _ w =>
        ldN w 1 t4 fun t100004_5 w =>
        k (.tuple #[t100004_5, t14_1]) w
      )
    )
  ) ∧
  (
    new w 66 #[.slice none 0 0] fun t6_2 w =>
    S w ∧
    call Tryz.prog w 88 [(.int .i64 1), (.int .i64 2)] fun t11_1 w =>
    S w ∧
    call Tryz.prog w 87 [t9, t1, t11_1] fun t12_2 w =>
    tup w 0 t12_2 fun t13_2 w =>
    tup w 1 t12_2 fun t14_2 w =>
    st w 1 t6_2 t13_2 fun _ w =>
    eq w false true .iface t14_2 .nilIface fun t16_2 w =>
    Br t16_2 (
      ldN w 1 t6_2 fun t18_2 w =>
      call Tryz.prog w 65 [t18_2] fun t19_2 w =>
      len w t19_2 fun t20_2 w =>
      bin w .eql t20_2 (.int .i64 0) fun t21_2 w =>
      Br t21_2 (
        bld w #[(0, 1)] #[.slice none 0 0] [] fun t23_2 w =>
        st w 1 t4 t23_2 fun _ w =>
        ldN w 1 t4 fun t100004_6 w =>
        k (.tuple #[t100004_6, (.iface 149 (.int .i64 30))]) w
      ) (
        ldN w 1 t6_2 fun t25_4 w =>
        st w 1 t4 t25_4 fun _ w =>
        ldN w 1 t4 fun t100004_7 w =>
        k (.tuple #[t100004_7, t14_2]) w
      )
    ) (
      ldN w 1 t6_2 fun t25_5 w =>
      st w 1 t4 t25_5 fun _ w =>
      ldN w 1 t4 fun t100004_8 w =>
      k (.tuple #[t100004_8, t14_2]) w
    )
  )
theorem b_roster_Roster_Drain_eq (t0 t1 : Value) (k : K) (w : World) : b_roster_Roster_Drain t0 t1 k w = bodyW Tryz.prog [] Tryz.f26 [t0, t1] k w := by kernel_rfl
/-- (portage/roster.Roster).Drain -/
theorem b_roster_Roster_Drain_walk {t0 t1 : Value} {k : K} {w : World} (h : b_roster_Roster_Drain t0 t1 k w) : call Tryz.prog w 26 [t0, t1] k :=
  calls_of_body Tryz.func26 (b_roster_Roster_Drain_eq t0 t1 k w ▸ h) (Nat.le_of_ble_eq_true rfl)
/-! ### (portage/roster.Roster).those -/
def b_roster_Roster_those (t0 t1 : Value) (k : K) (w : World) : Prop :=
  box w 66 t0 fun t2 w =>
  add w 0 t2 fun t8 w =>
  ld w t8 fun t9 w =>
  len w t9 fun t10 w =>
  loop [(.slice none 0 0), (.int .i64 0)] w fun J1 s1 next1 w =>
  bin w .lss (at' s1 1) t10 fun t12 w =>
  Br t12 (
    idx w 2 t9 (at' s1 1) fun t14 w =>
    ldN w 2 t14 fun t15 w =>
    new w 95 #[.int .i64 0, .int .i64 0] fun t7 w =>
    st w 2 t7 t15 fun _ w =>
    ldN w 1 t2 fun t16 w =>
    call Tryz.prog w 89 [t16] fun t17 w =>
    eq w false true .iface t17 .nilIface fun t18 w =>
    Br t18 (
      ldN w 2 t7 fun t21 w =>
      callV Tryz.prog w t1 [t21] fun t22 w =>
      Br t22 (
        bldS w 3 1 1 [.int .i64 0] [(0, (at' s1 1))] fun t26 w =>
        app w 3 1 8 #[.int .i64 0] (at' s1 0) t26 fun t27 w =>
        bin w .add (at' s1 1) (.int .i64 1) fun t28 w =>
        next1 [t27, t28] w
      ) (
        bin w .add (at' s1 1) (.int .i64 1) fun t28_1 w =>
        next1 [(at' s1 0), t28_1] w
      )
    ) (
      bin w .add (at' s1 1) (.int .i64 1) fun t28_2 w =>
      next1 [(at' s1 0), t28_2] w
    )
  ) (
    k (at' s1 0) w
  )
theorem b_roster_Roster_those_eq (t0 t1 : Value) (k : K) (w : World) : b_roster_Roster_those t0 t1 k w = bodyW Tryz.prog [(3, [5, 11])] Tryz.f118 [t0, t1] k w := by kernel_rfl
/-- (portage/roster.Roster).those -/
theorem b_roster_Roster_those_walk {t0 t1 : Value} {k : K} {w : World} (h : b_roster_Roster_those t0 t1 k w) : call Tryz.prog w 118 [t0, t1] k :=
  calls_of_body Tryz.func118 (b_roster_Roster_those_eq t0 t1 k w ▸ h) (Nat.le_of_ble_eq_true rfl)
/-! ### (portage/roster.Roster).with -/
def b_roster_Roster_with (t0 t1 t2 : Value) (k : K) (w : World) : Prop :=
  box w 66 t0 fun t3 w =>
  new w 66 #[.slice none 0 0] fun t6 w =>
  ldN w 1 t3 fun t11 w =>
  call Tryz.prog w 89 [t11] fun t12 w =>
  eq w true true .iface t12 .nilIface fun t13 w =>
  Br t13 (
    bld w #[(0, 1)] #[.slice none 0 0] [] fun t14 w =>
    st w 1 t6 t14 fun _ w =>
    ldN w 1 t6 fun t100006 w =>
    k (.tuple #[t100006, (.iface 149 (.int .i64 14))]) w
  ) (
    bin w .lss t1 (.int .i64 0) fun t18 w =>
    Br t18 (
      bld w #[(0, 1)] #[.slice none 0 0] [] fun t26 w =>
      st w 1 t6 t26 fun _ w =>
      ldN w 1 t6 fun t100006_1 w =>
      k (.tuple #[t100006_1, (.iface 149 (.int .i64 23))]) w
    ) (
      add w 0 t3 fun t21 w =>
      ld w t21 fun t22 w =>
      len w t22 fun t23 w =>
      bin w .geq t1 t23 fun t24 w =>
      Br t24 (
        bld w #[(0, 1)] #[.slice none 0 0] [] fun t26_1 w =>
        st w 1 t6 t26_1 fun _ w =>
        ldN w 1 t6 fun t100006_2 w =>
        k (.tuple #[t100006_2, (.iface 149 (.int .i64 23))]) w
      ) (
        add w 0 t3 fun t28 w =>
        ld w t28 fun t29 w =>
        call Tryz.prog w 135 [t29] fun t30 w =>
        idx w 2 t30 t1 fun t34 w =>
        callV Tryz.prog w t2 [t34] fun t35 w =>
        eq w true true .iface t35 .nilIface fun t37 w =>
        Br t37 (
          bld w #[(0, 1)] #[.slice none 0 0] [] fun t38 w =>
          st w 1 t6 t38 fun _ w =>
          ldN w 1 t6 fun t100006_3 w =>
          k (.tuple #[t100006_3, t35]) w
        ) (
          bld w #[(0, 1)] #[.slice none 0 0] [(0, t30)] fun t41 w =>
          st w 1 t6 t41 fun _ w =>
          ldN w 1 t6 fun t100006_4 w =>
          k (.tuple #[t100006_4, .nilIface]) w
        )
      )
    )
  )
theorem b_roster_Roster_with_eq (t0 t1 t2 : Value) (k : K) (w : World) : b_roster_Roster_with t0 t1 t2 k w = bodyW Tryz.prog [] Tryz.f87 [t0, t1, t2] k w := by kernel_rfl
/-- (portage/roster.Roster).with -/
theorem b_roster_Roster_with_walk {t0 t1 t2 : Value} {k : K} {w : World} (h : b_roster_Roster_with t0 t1 t2 k w) : call Tryz.prog w 87 [t0, t1, t2] k :=
  calls_of_body Tryz.func87 (b_roster_Roster_with_eq t0 t1 t2 k w ▸ h) (Nat.le_of_ble_eq_true rfl)
/-! ### portage/roster.turn -/
def b_roster_turn (t0 t1 : Value) (k : K) (w : World) : Prop :=
  box w 3 t0 fun t2 w =>
  box w 3 t1 fun t3 w =>
  k (.func (.func 136) #[] #[t2, t3]) w
theorem b_roster_turn_eq (t0 t1 : Value) (k : K) (w : World) : b_roster_turn t0 t1 k w = bodyW Tryz.prog [] Tryz.f88 [t0, t1] k w := by kernel_rfl
/-- portage/roster.turn -/
theorem b_roster_turn_walk {t0 t1 : Value} {k : K} {w : World} (h : b_roster_turn t0 t1 k w) : call Tryz.prog w 88 [t0, t1] k :=
  calls_of_body Tryz.func88 (b_roster_turn_eq t0 t1 k w ▸ h) (Nat.le_of_ble_eq_true rfl)
/-! ### portage/roster.turn$1 -/
def b_roster_turn_c1 (t0 t1 t2 : Value) (k : K) (w : World) : Prop :=
  drawS w fun S w =>
  nn w t0 fun t6 w =>
  add w 0 t6 fun t7 w =>
  held S w (fun w k => ld w t7 k) fun t8 w =>
  held S w (fun w k => ld w t1 k) fun t9 w =>
  bin w .neq t8 t9 fun t10 w =>
  Br t10 (
    k (.iface 149 (.int .i64 30)) w
  ) (
    ld w t2 fun t13 w =>
    nn w t0 fun t14 w =>
    add w 0 t14 fun t15 w =>
    st w 1 t15 t13 fun _ w =>
    k .nilIface w
  )
theorem b_roster_turn_c1_eq (t0 t1 t2 : Value) (k : K) (w : World) : b_roster_turn_c1 t0 t1 t2 k w = bodyW Tryz.prog [] Tryz.f136 [t0, t1, t2] k w := by kernel_rfl
/-- portage/roster.turn$1 -/
theorem b_roster_turn_c1_walk {t0 t1 t2 : Value} {k : K} {w : World} (h : b_roster_turn_c1 t0 t1 t2 k w) : call Tryz.prog w 136 [t0, t1, t2] k :=
  calls_of_body Tryz.func136 (b_roster_turn_c1_eq t0 t1 t2 k w ▸ h) (Nat.le_of_ble_eq_true rfl)
end Go.Proofs.YtemenmmekddjaaaGreatDoor
