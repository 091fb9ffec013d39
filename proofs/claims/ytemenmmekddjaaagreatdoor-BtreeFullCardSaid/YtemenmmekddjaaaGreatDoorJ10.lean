/- The bodies of functions, written out by program from the loaded translation; each is held against it by the kernel. No condition. -/
import Derived.Test.YtemenmmekddjaaaGreatDoorProg
import Derived.KernelRfl
import Derived.Test.YtemenmmekddjaaaGreatDoorJ03
set_option linter.all false
set_option linter.unusedVariables false
set_option linter.unusedSimpArgs false
set_option linter.unnecessarySimpa false
set_option linter.unusedSectionVars false
set_option linter.constructorNameAsVariable false
namespace Go.Proofs.YtemenmmekddjaaaGreatDoor
open Go Go.Wx Go.W
set_option maxRecDepth 100000
set_option linter.unusedVariables false
/-! ### (*portage/bank.Bank).Add -/
def b_bank_Bank_Add (t0 t1 : Value) (k : K) (w : World) : Prop :=
  nn w t0 fun t10 w =>
  add w 0 t10 fun t11 w =>
  ld w t11 fun t12 w =>
  len w t12 fun t13 w =>
  nn w t0 fun t16 w =>
  add w 3 t16 fun t17 w =>
  ld w t17 fun t18 w =>
  Br t18 (
    call Tryz.prog w 107 [(.string ⟨#[97, 100, 100]⟩), t13, (.int .i64 0), (.iface 149 (.int .i64 22))] fun t21 w =>
    k (.tuple #[(.int .i64 0), t21]) w
  ) (
    bin w .geq t13 (.int .i64 8) fun t24 w =>
    Br t24 (
      call Tryz.prog w 107 [(.string ⟨#[97, 100, 100]⟩), t13, (.int .i64 0), (.iface 149 (.int .i64 24))] fun t27 w =>
      k (.tuple #[(.int .i64 0), t27]) w
    ) (
      call Tryz.prog w 108 [t1] fun t30 w =>
      tup w 0 t30 fun t31 w =>
      tup w 1 t30 fun t32 w =>
      eq w true true .iface t32 .nilIface fun t34 w =>
      Br t34 (
        call Tryz.prog w 107 [(.string ⟨#[97, 100, 100]⟩), t13, (.int .i64 0), t32] fun t37 w =>
        k (.tuple #[(.int .i64 0), t37]) w
      ) (
        nn w t0 fun t40 w =>
        add w 0 t40 fun t41 w =>
        ld w t41 fun t42 w =>
        bldS w 187 1 1 [.pointer none] [(0, t31)] fun t44 w =>
        app w 187 1 8 #[.pointer none] t42 t44 fun t45 w =>
        nn w t0 fun t46 w =>
        add w 0 t46 fun t47 w =>
        st w 1 t47 t45 fun _ w =>
        k (.tuple #[t13, .nilIface]) w
      )
    )
  )
theorem b_bank_Bank_Add_eq (t0 t1 : Value) (k : K) (w : World) : b_bank_Bank_Add t0 t1 k w = bodyW Tryz.prog [] Tryz.f41 [t0, t1] k w := by kernel_rfl
/-- (*portage/bank.Bank).Add -/
theorem b_bank_Bank_Add_walk {t0 t1 : Value} {k : K} {w : World} (h : b_bank_Bank_Add t0 t1 k w) : call Tryz.prog w 41 [t0, t1] k :=
  calls_of_body Tryz.func41 (b_bank_Bank_Add_eq t0 t1 k w ▸ h) (Nat.le_of_ble_eq_true rfl)
/-! ### (*portage/bank.Bank).Done -/
def b_bank_Bank_Done (t0 : Value) (k : K) (w : World) : Prop :=
  nn w t0 fun t4 w =>
  add w 4 t4 fun t5 w =>
  ld w t5 fun t6 w =>
  k t6 w
theorem b_bank_Bank_Done_eq (t0 : Value) (k : K) (w : World) : b_bank_Bank_Done t0 k w = bodyW Tryz.prog [] Tryz.f32 [t0] k w := by kernel_rfl
/-- (*portage/bank.Bank).Done -/
theorem b_bank_Bank_Done_walk {t0 : Value} {k : K} {w : World} (h : b_bank_Bank_Done t0 k w) : call Tryz.prog w 32 [t0] k :=
  calls_of_body Tryz.func32 (b_bank_Bank_Done_eq t0 k w ▸ h) (Nat.le_of_ble_eq_true rfl)
/-! ### (*portage/bank.Bank).Read -/
def b_bank_Bank_Read (t0 t1 t2 : Value) (k : K) (w : World) : Prop :=
  call Tryz.prog w 226 [t0, t1] fun t14 w =>
  tup w 0 t14 fun t15 w =>
  tup w 1 t14 fun t16 w =>
  eq w true true .iface t16 .nilIface fun t18 w =>
  Br t18 (
    call Tryz.prog w 107 [(.string ⟨#[114, 101, 97, 100]⟩), t1, t2, t16] fun t22 w =>
    k (.tuple #[(.slice none 0 0), t22]) w
  ) (
    call Tryz.prog w 239 [t15, t2] fun t26 w =>
    tup w 0 t26 fun t27 w =>
    tup w 1 t26 fun t28 w =>
    call Tryz.prog w 107 [(.string ⟨#[114, 101, 97, 100]⟩), t1, t2, t28] fun t33 w =>
    k (.tuple #[t27, t33]) w
  )
theorem b_bank_Bank_Read_eq (t0 t1 t2 : Value) (k : K) (w : World) : b_bank_Bank_Read t0 t1 t2 k w = bodyW Tryz.prog [] Tryz.f219 [t0, t1, t2] k w := by kernel_rfl
/-- (*portage/bank.Bank).Read -/
theorem b_bank_Bank_Read_walk {t0 t1 t2 : Value} {k : K} {w : World} (h : b_bank_Bank_Read t0 t1 t2 k w) : call Tryz.prog w 219 [t0, t1, t2] k :=
  calls_of_body Tryz.func219 (b_bank_Bank_Read_eq t0 t1 t2 k w ▸ h) (Nat.le_of_ble_eq_true rfl)
/-! ### (*portage/bank.Bank).Write -/
def b_bank_Bank_Write (t0 t1 t2 t3 : Value) (k : K) (w : World) : Prop :=
  call Tryz.prog w 197 [t0, t1, t2, t3] fun t15 w =>
  call Tryz.prog w 107 [(.string ⟨#[119, 114, 105, 116, 101]⟩), t1, t2, t15] fun t16 w =>
  k t16 w
theorem b_bank_Bank_Write_eq (t0 t1 t2 t3 : Value) (k : K) (w : World) : b_bank_Bank_Write t0 t1 t2 t3 k w = bodyW Tryz.prog [] Tryz.f159 [t0, t1, t2, t3] k w := by kernel_rfl
/-- (*portage/bank.Bank).Write -/
theorem b_bank_Bank_Write_walk {t0 t1 t2 t3 : Value} {k : K} {w : World} (h : b_bank_Bank_Write t0 t1 t2 t3 k w) : call Tryz.prog w 159 [t0, t1, t2, t3] k :=
  calls_of_body Tryz.func159 (b_bank_Bank_Write_eq t0 t1 t2 t3 k w ▸ h) (Nat.le_of_ble_eq_true rfl)
/-! ### (*portage/bank.Bank).count -/
def b_bank_Bank_countj1 (t0_1 : Value) (k : K) (w : World) : Prop :=
  nn w t0_1 fun t30 w =>
  add w 4 t30 fun t31 w =>
  ld w t31 fun t32 w =>
  bin w .add t32 (.int .i64 1) fun t33 w =>
  nn w t0_1 fun t34 w =>
  add w 4 t34 fun t35 w =>
  st w 1 t35 t33 fun _ w =>
  k .nilIface w
def b_bank_Bank_countj2 (t0_2 : Value) (k : K) (w : World) : Prop :=
  nn w t0_2 fun t30_1 w =>
  add w 4 t30_1 fun t31_1 w =>
  ld w t31_1 fun t32_1 w =>
  bin w .add t32_1 (.int .i64 1) fun t33_1 w =>
  nn w t0_2 fun t34_1 w =>
  add w 4 t34_1 fun t35_1 w =>
  st w 1 t35_1 t33_1 fun _ w =>
  k .nilIface w
def b_bank_Bank_count (t0 : Value) (k : K) (w : World) : Prop :=
  nn w t0 fun t4 w =>
  add w 1 t4 fun t5 w =>
  ld w t5 fun t6 w =>
  Br t6 (
    nn w t0 fun t9 w =>
    add w 2 t9 fun t10 w =>
    ld w t10 fun t11 w =>
    bin w .eql t11 (.int .i64 0) fun t12 w =>
    Br t12 (
      nn w t0 fun t15 w =>
      add w 3 t15 fun t16 w =>
      st w 1 t16 (.bool true) fun _ w =>
      k (.iface 149 (.int .i64 22)) w
    ) (
      nn w t0 fun t19 w =>
      add w 1 t19 fun t20 w =>
      ld w t20 fun t21 w =>
      Br t21 (
        nn w t0 fun t23 w =>
        add w 2 t23 fun t24 w =>
        ld w t24 fun t25 w =>
        bin w .sub t25 (.int .i64 1) fun t26 w =>
        nn w t0 fun t27 w =>
        add w 2 t27 fun t28 w =>
        st w 1 t28 t26 fun _ w =>
        b_bank_Bank_countj1 t0 k w
      ) (
        b_bank_Bank_countj1 t0 k w
      )
    )
  ) (
    nn w t0 fun t19_1 w =>
    add w 1 t19_1 fun t20_1 w =>
    ld w t20_1 fun t21_1 w =>
    Br t21_1 (
      nn w t0 fun t23_1 w =>
      add w 2 t23_1 fun t24_1 w =>
      ld w t24_1 fun t25_1 w =>
      bin w .sub t25_1 (.int .i64 1) fun t26_1 w =>
      nn w t0 fun t27_1 w =>
      add w 2 t27_1 fun t28_1 w =>
      st w 1 t28_1 t26_1 fun _ w =>
      b_bank_Bank_countj2 t0 k w
    ) (
      b_bank_Bank_countj2 t0 k w
    )
  )
theorem b_bank_Bank_count_eq (t0 : Value) (k : K) (w : World) : b_bank_Bank_count t0 k w = bodyW Tryz.prog [] Tryz.f228 [t0] k w := by kernel_rfl
/-- (*portage/bank.Bank).count -/
theorem b_bank_Bank_count_walk {t0 : Value} {k : K} {w : World} (h : b_bank_Bank_count t0 k w) : call Tryz.prog w 228 [t0] k :=
  calls_of_body Tryz.func228 (b_bank_Bank_count_eq t0 k w ▸ h) (Nat.le_of_ble_eq_true rfl)
/-! ### (*portage/bank.Bank).device -/
def b_bank_Bank_device (t0 t1 : Value) (k : K) (w : World) : Prop :=
  bin w .lss t1 (.int .i64 0) fun t8 w =>
  Br t8 (
    k (.tuple #[(.pointer none), (.iface 149 (.int .i64 23))]) w
  ) (
    nn w t0 fun t12 w =>
    add w 0 t12 fun t13 w =>
    ld w t13 fun t14 w =>
    len w t14 fun t15 w =>
    bin w .geq t1 t15 fun t16 w =>
    Br t16 (
      k (.tuple #[(.pointer none), (.iface 149 (.int .i64 23))]) w
    ) (
      nn w t0 fun t21 w =>
      add w 0 t21 fun t22 w =>
      ld w t22 fun t23 w =>
      idx w 1 t23 t1 fun t25 w =>
      ld w t25 fun t26 w =>
      eq w false true .ptr t26 (.pointer none) fun t27 w =>
      Br t27 (
        k (.tuple #[(.pointer none), (.iface 149 (.int .i64 25))]) w
      ) (
        nn w t0 fun t30 w =>
        add w 0 t30 fun t31 w =>
        ld w t31 fun t32 w =>
        idx w 1 t32 t1 fun t34 w =>
        ld w t34 fun t35 w =>
        k (.tuple #[t35, .nilIface]) w
      )
    )
  )
theorem b_bank_Bank_device_eq (t0 t1 : Value) (k : K) (w : World) : b_bank_Bank_device t0 t1 k w = bodyW Tryz.prog [] Tryz.f245 [t0, t1] k w := by kernel_rfl
/-- (*portage/bank.Bank).device -/
theorem b_bank_Bank_device_walk {t0 t1 : Value} {k : K} {w : World} (h : b_bank_Bank_device t0 t1 k w) : call Tryz.prog w 245 [t0, t1] k :=
  calls_of_body Tryz.func245 (b_bank_Bank_device_eq t0 t1 k w ▸ h) (Nat.le_of_ble_eq_true rfl)
/-! ### (*portage/bank.Bank).live -/
def b_bank_Bank_live (t0 t1 : Value) (k : K) (w : World) : Prop :=
  nn w t0 fun t7 w =>
  add w 3 t7 fun t8 w =>
  ld w t8 fun t9 w =>
  Br t9 (
    k (.tuple #[(.pointer none), (.iface 149 (.int .i64 22))]) w
  ) (
    call Tryz.prog w 245 [t0, t1] fun t13 w =>
    tup w 0 t13 fun t14 w =>
    tup w 1 t13 fun t15 w =>
    k (.tuple #[t14, t15]) w
  )
theorem b_bank_Bank_live_eq (t0 t1 : Value) (k : K) (w : World) : b_bank_Bank_live t0 t1 k w = bodyW Tryz.prog [] Tryz.f226 [t0, t1] k w := by kernel_rfl
/-- (*portage/bank.Bank).live -/
theorem b_bank_Bank_live_walk {t0 t1 : Value} {k : K} {w : World} (h : b_bank_Bank_live t0 t1 k w) : call Tryz.prog w 226 [t0, t1] k :=
  calls_of_body Tryz.func226 (b_bank_Bank_live_eq t0 t1 k w ▸ h) (Nat.le_of_ble_eq_true rfl)
/-! ### (*portage/bank.Bank).write -/
def b_bank_Bank_write (t0 t1 t2 t3 : Value) (k : K) (w : World) : Prop :=
  call Tryz.prog w 226 [t0, t1] fun t15 w =>
  tup w 0 t15 fun t16 w =>
  tup w 1 t15 fun t17 w =>
  eq w true true .iface t17 .nilIface fun t20 w =>
  Br t20 (
    k t17 w
  ) (
    bin w .lss t2 (.int .i64 0) fun t24 w =>
    Br t24 (
      k (.iface 149 (.int .i64 20)) w
    ) (
      call Tryz.prog w 227 [t16] fun t28 w =>
      bin w .geq t2 t28 fun t29 w =>
      Br t29 (
        k (.iface 149 (.int .i64 20)) w
      ) (
        len w t3 fun t34 w =>
        bin w .neq t34 (.int .i64 128) fun t35 w =>
        Br t35 (
          k (.iface 149 (.int .i64 11)) w
        ) (
          call Tryz.prog w 228 [t0] fun t38 w =>
          eq w true true .iface t38 .nilIface fun t40 w =>
          Br t40 (
            k t38 w
          ) (
            call Tryz.prog w 229 [t16, t2, t3] fun t45 w =>
            k t45 w
          )
        )
      )
    )
  )
theorem b_bank_Bank_write_eq (t0 t1 t2 t3 : Value) (k : K) (w : World) : b_bank_Bank_write t0 t1 t2 t3 k w = bodyW Tryz.prog [] Tryz.f197 [t0, t1, t2, t3] k w := by kernel_rfl
/-- (*portage/bank.Bank).write -/
theorem b_bank_Bank_write_walk {t0 t1 t2 t3 : Value} {k : K} {w : World} (h : b_bank_Bank_write t0 t1 t2 t3 k w) : call Tryz.prog w 197 [t0, t1, t2, t3] k :=
  calls_of_body Tryz.func197 (b_bank_Bank_write_eq t0 t1 t2 t3 k w ▸ h) (Nat.le_of_ble_eq_true rfl)
/-! ### portage/bank.New -/
def b_bank_New (k : K) (w : World) : Prop :=
  bld w #[(0, 1), (1, 1), (2, 1), (3, 1), (4, 1)] #[.slice none 0 0, .bool false, .int .i64 0, .bool false, .int .i64 0] [] fun t1 w =>
  box w 178 t1 fun t2 w =>
  k t2 w
theorem b_bank_New_eq (k : K) (w : World) : b_bank_New  k w = bodyW Tryz.prog [] Tryz.f40 [] k w := by kernel_rfl
/-- portage/bank.New -/
theorem b_bank_New_walk {k : K} {w : World} (h : b_bank_New  k w) : call Tryz.prog w 40 [] k :=
  calls_of_body Tryz.func40 (b_bank_New_eq  k w ▸ h) (Nat.le_of_ble_eq_true rfl)
/-! ### (*portage/disk.Disk).Read -/
def b_disk_Disk_Read (t0 t1 : Value) (k : K) (w : World) : Prop :=
  call Tryz.prog w 246 [t0, t1] fun t9 w =>
  un w .not t9 fun t10 w =>
  Br t10 (
    k (.tuple #[(.slice none 0 0), (.iface 149 (.int .i64 20))]) w
  ) (
    nn w t0 fun t14 w =>
    add w 0 t14 fun t15 w =>
    ld w t15 fun t16 w =>
    idx w 1 t16 t1 fun t18 w =>
    ld w t18 fun t19 w =>
    nn w t19 fun t20 w =>
    add w 2 t20 fun t21 w =>
    ld w t21 fun t22 w =>
    Br t22 (
      k (.tuple #[(.slice none 0 0), (.iface 149 (.int .i64 21))]) w
    ) (
      nn w t0 fun t25 w =>
      add w 0 t25 fun t26 w =>
      ld w t26 fun t27 w =>
      idx w 1 t27 t1 fun t29 w =>
      ld w t29 fun t30 w =>
      call Tryz.prog w 250 [t30] fun t31 w =>
      call Tryz.prog w 222 [t31] fun t32 w =>
      k (.tuple #[t32, .nilIface]) w
    )
  )
theorem b_disk_Disk_Read_eq (t0 t1 : Value) (k : K) (w : World) : b_disk_Disk_Read t0 t1 k w = bodyW Tryz.prog [] Tryz.f239 [t0, t1] k w := by kernel_rfl
/-- (*portage/disk.Disk).Read -/
theorem b_disk_Disk_Read_walk {t0 t1 : Value} {k : K} {w : World} (h : b_disk_Disk_Read t0 t1 k w) : call Tryz.prog w 239 [t0, t1] k :=
  calls_of_body Tryz.func239 (b_disk_Disk_Read_eq t0 t1 k w ▸ h) (Nat.le_of_ble_eq_true rfl)
/-! ### (*portage/disk.Disk).Size -/
def b_disk_Disk_Size (t0 : Value) (k : K) (w : World) : Prop :=
  nn w t0 fun t4 w =>
  add w 0 t4 fun t5 w =>
  ld w t5 fun t6 w =>
  len w t6 fun t7 w =>
  k t7 w
theorem b_disk_Disk_Size_eq (t0 : Value) (k : K) (w : World) : b_disk_Disk_Size t0 k w = bodyW Tryz.prog [] Tryz.f227 [t0] k w := by kernel_rfl
/-- (*portage/disk.Disk).Size -/
theorem b_disk_Disk_Size_walk {t0 : Value} {k : K} {w : World} (h : b_disk_Disk_Size t0 k w) : call Tryz.prog w 227 [t0] k :=
  calls_of_body Tryz.func227 (b_disk_Disk_Size_eq t0 k w ▸ h) (Nat.le_of_ble_eq_true rfl)
/-! ### (*portage/disk.Disk).Write -/
def b_disk_Disk_Write (t0 t1 t2 : Value) (k : K) (w : World) : Prop :=
  call Tryz.prog w 246 [t0, t1] fun t11 w =>
  un w .not t11 fun t12 w =>
  Br t12 (
    k (.iface 149 (.int .i64 20)) w
  ) (
    len w t2 fun t16 w =>
    bin w .neq t16 (.int .i64 128) fun t17 w =>
    Br t17 (
      k (.iface 149 (.int .i64 11)) w
    ) (
      nn w t0 fun t20 w =>
      add w 0 t20 fun t21 w =>
      ld w t21 fun t22 w =>
      idx w 1 t22 t1 fun t24 w =>
      ld w t24 fun t25 w =>
      drawS w fun S w =>
      nn w t25 fun t28 w =>
      add w 1 t28 fun t29 w =>
      held S w (fun w k => ld w t29 k) fun t30 w =>
      call Tryz.prog w 222 [t2] fun t32 w =>
      S w ∧
      bldS w 229 1 1 [.slice none 0 0] [(0, t32)] fun t33 w =>
      S w ∧
      app w 229 1 24 #[.slice none 0 0] t30 t33 fun t34 w =>
      nn w t25 fun t35 w =>
      add w 1 t35 fun t36 w =>
      st w 1 t36 t34 fun _ w =>
      k .nilIface w
    )
  )
theorem b_disk_Disk_Write_eq (t0 t1 t2 : Value) (k : K) (w : World) : b_disk_Disk_Write t0 t1 t2 k w = bodyW Tryz.prog [] Tryz.f229 [t0, t1, t2] k w := by kernel_rfl
/-- (*portage/disk.Disk).Write -/
theorem b_disk_Disk_Write_walk {t0 t1 t2 : Value} {k : K} {w : World} (h : b_disk_Disk_Write t0 t1 t2 k w) : call Tryz.prog w 229 [t0, t1, t2] k :=
  calls_of_body Tryz.func229 (b_disk_Disk_Write_eq t0 t1 t2 k w ▸ h) (Nat.le_of_ble_eq_true rfl)
/-! ### (*portage/disk.Disk).has -/
def b_disk_Disk_has (t0 t1 : Value) (k : K) (w : World) : Prop :=
  bin w .geq t1 (.int .i64 0) fun t6 w =>
  Br t6 (
    nn w t0 fun t10 w =>
    add w 0 t10 fun t11 w =>
    ld w t11 fun t12 w =>
    len w t12 fun t13 w =>
    bin w .lss t1 t13 fun t14 w =>
    k t14 w
  ) (
    k (.bool false) w
  )
theorem b_disk_Disk_has_eq (t0 t1 : Value) (k : K) (w : World) : b_disk_Disk_has t0 t1 k w = bodyW Tryz.prog [] Tryz.f246 [t0, t1] k w := by kernel_rfl
/-- (*portage/disk.Disk).has -/
theorem b_disk_Disk_has_walk {t0 t1 : Value} {k : K} {w : World} (h : b_disk_Disk_has t0 t1 k w) : call Tryz.prog w 246 [t0, t1] k :=
  calls_of_body Tryz.func246 (b_disk_Disk_has_eq t0 t1 k w ▸ h) (Nat.le_of_ble_eq_true rfl)
/-! ### portage/disk.New -/
def b_disk_New (t0 : Value) (k : K) (w : World) : Prop :=
  bin w .lss t0 (.int .i64 1) fun t5 w =>
  Br t5 (
    k (.tuple #[(.pointer none), (.iface 149 (.int .i64 20))]) w
  ) (
    bin w .gtr t0 (.int .i64 4096) fun t8 w =>
    Br t8 (
      k (.tuple #[(.pointer none), (.iface 149 (.int .i64 20))]) w
    ) (
      call Tryz.prog w 167 [t0] fun t12 w =>
      bld w #[(0, 1)] #[.slice none 0 0] [(0, t12)] fun t13 w =>
      box w 246 t13 fun t14 w =>
      k (.tuple #[t14, .nilIface]) w
    )
  )
theorem b_disk_New_eq (t0 : Value) (k : K) (w : World) : b_disk_New t0 k w = bodyW Tryz.prog [] Tryz.f108 [t0] k w := by kernel_rfl
/-- portage/disk.New -/
theorem b_disk_New_walk {t0 : Value} {k : K} {w : World} (h : b_disk_New t0 k w) : call Tryz.prog w 108 [t0] k :=
  calls_of_body Tryz.func108 (b_disk_New_eq t0 k w ▸ h) (Nat.le_of_ble_eq_true rfl)
/-! ### portage/disk.fresh -/
def b_disk_fresh (t0 : Value) (k : K) (w : World) : Prop :=
  loop [(.slice none 0 0), (.int .i64 0)] w fun J1 s1 next1 w =>
  bin w .lss (at' s1 1) t0 fun t6 w =>
  Br t6 (
    mks w 5 1 1 #[.int .u8 0] (.int .i64 128) (.int .i64 128) fun t8 w =>
    bld w #[(0, 1), (1, 1), (2, 1)] #[.slice none 0 0, .slice none 0 0, .bool false] [(0, t8)] fun t9 w =>
    box w 289 t9 fun t10 w =>
    bldS w 286 1 1 [.pointer none] [(0, t10)] fun t11 w =>
    app w 286 1 8 #[.pointer none] (at' s1 0) t11 fun t12 w =>
    bin w .add (at' s1 1) (.int .i64 1) fun t13 w =>
    next1 [t12, t13] w
  ) (
    k (at' s1 0) w
  )
theorem b_disk_fresh_eq (t0 : Value) (k : K) (w : World) : b_disk_fresh t0 k w = bodyW Tryz.prog [(3, [3, 5])] Tryz.f167 [t0] k w := by kernel_rfl
/-- portage/disk.fresh -/
theorem b_disk_fresh_walk {t0 : Value} {k : K} {w : World} (h : b_disk_fresh t0 k w) : call Tryz.prog w 167 [t0] k :=
  calls_of_body Tryz.func167 (b_disk_fresh_eq t0 k w ▸ h) (Nat.le_of_ble_eq_true rfl)
/-! ### (*portage/disk.sector).last -/
def b_disk_sector_last (t0 : Value) (k : K) (w : World) : Prop :=
  nn w t0 fun t5 w =>
  add w 1 t5 fun t6 w =>
  ld w t6 fun t7 w =>
  len w t7 fun t8 w =>
  bin w .gtr t8 (.int .i64 0) fun t10 w =>
  Br t10 (
    nn w t0 fun t12 w =>
    add w 1 t12 fun t13 w =>
    ld w t13 fun t14 w =>
    bin w .sub t8 (.int .i64 1) fun t16 w =>
    idx w 1 t14 t16 fun t17 w =>
    ld w t17 fun t18 w =>
    k t18 w
  ) (
    nn w t0 fun t20 w =>
    add w 0 t20 fun t21 w =>
    ld w t21 fun t22 w =>
    k t22 w
  )
theorem b_disk_sector_last_eq (t0 : Value) (k : K) (w : World) : b_disk_sector_last t0 k w = bodyW Tryz.prog [] Tryz.f250 [t0] k w := by kernel_rfl
/-- (*portage/disk.sector).last -/
theorem b_disk_sector_last_walk {t0 : Value} {k : K} {w : World} (h : b_disk_sector_last t0 k w) : call Tryz.prog w 250 [t0] k :=
  calls_of_body Tryz.func250 (b_disk_sector_last_eq t0 k w ▸ h) (Nat.le_of_ble_eq_true rfl)
/-! ### portage/fault.Wrap -/
def b_fault_Wrap (t0 t1 t2 t3 : Value) (k : K) (w : World) : Prop :=
  eq w false true .iface t3 .nilIface fun t10 w =>
  Br t10 (
    k .nilIface w
  ) (
    bld w #[(0, 1), (1, 1), (2, 1), (3, 1)] #[.string ⟨#[]⟩, .int .i64 0, .int .i64 0, .nilIface] [(0, t0), (1, t1), (2, t2), (3, t3)] fun t15 w =>
    box w 242 t15 fun t16 w =>
    k (.iface 240 t16) w
  )
theorem b_fault_Wrap_eq (t0 t1 t2 t3 : Value) (k : K) (w : World) : b_fault_Wrap t0 t1 t2 t3 k w = bodyW Tryz.prog [] Tryz.f107 [t0, t1, t2, t3] k w := by kernel_rfl
/-- portage/fault.Wrap -/
theorem b_fault_Wrap_walk {t0 t1 t2 t3 : Value} {k : K} {w : World} (h : b_fault_Wrap t0 t1 t2 t3 k w) : call Tryz.prog w 107 [t0, t1, t2, t3] k :=
  calls_of_body Tryz.func107 (b_fault_Wrap_eq t0 t1 t2 t3 k w ▸ h) (Nat.le_of_ble_eq_true rfl)
end Go.Proofs.YtemenmmekddjaaaGreatDoor
