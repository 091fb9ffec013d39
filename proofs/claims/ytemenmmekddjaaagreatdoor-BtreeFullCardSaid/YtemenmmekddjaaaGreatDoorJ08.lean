/- The bodies of functions, written out by program from the loaded translation; each is held against it by the kernel. No condition. -/
import Derived.Test.YtemenmmekddjaaaGreatDoorProg
import Derived.KernelRfl
import Derived.Test.YtemenmmekddjaaaGreatDoorJ03
set_option linter.all false
set_option linter.unusedVariables false
set_option linter.unusedSimpArgs false
set_option linter.unnecessarySimpa false
set_option linter.unusedSectionVars false
set_option linter.constructorNameAsVariable false
namespace Go.Proofs.YtemenmmekddjaaaGreatDoor
open Go Go.Wx Go.W
set_option maxRecDepth 100000
set_option linter.unusedVariables false
/-! ### portage/frame.Get -/
def b_frame_Get (t0 t1 : Value) (k : K) (w : World) : Prop :=
  call Tryz.prog w 251 [t1] fun t8 w =>
  eq w true true .iface t8 .nilIface fun t10 w =>
  Br t10 (
    k (.tuple #[(.slice none 0 0), t8]) w
  ) (
    idx w 1 t1 (.int .i64 0) fun t13 w =>
    ld w t13 fun t14 w =>
    bin w .neq t14 t0 fun t16 w =>
    Br t16 (
      k (.tuple #[(.slice none 0 0), (.iface 149 (.int .i64 13))]) w
    ) (
      call Tryz.prog w 252 [t1] fun t19 w =>
      tup w 0 t19 fun t20 w =>
      tup w 1 t19 fun t21 w =>
      k (.tuple #[t20, t21]) w
    )
  )
theorem b_frame_Get_eq (t0 t1 : Value) (k : K) (w : World) : b_frame_Get t0 t1 k w = bodyW Tryz.prog [] Tryz.f240 [t0, t1] k w := by kernel_rfl
/-- portage/frame.Get -/
theorem b_frame_Get_walk {t0 t1 : Value} {k : K} {w : World} (h : b_frame_Get t0 t1 k w) : call Tryz.prog w 240 [t0, t1] k :=
  calls_of_body Tryz.func240 (b_frame_Get_eq t0 t1 k w ▸ h) (Nat.le_of_ble_eq_true rfl)
/-! ### portage/frame.NewPacker -/
def b_frame_NewPacker (k : K) (w : World) : Prop :=
  bld w #[(0, 1), (1, 1)] #[.slice none 0 0, .bool false] [] fun t1 w =>
  box w 304 t1 fun t2 w =>
  k t2 w
theorem b_frame_NewPacker_eq (k : K) (w : World) : b_frame_NewPacker  k w = bodyW Tryz.prog [] Tryz.f188 [] k w := by kernel_rfl
/-- portage/frame.NewPacker -/
theorem b_frame_NewPacker_walk {k : K} {w : World} (h : b_frame_NewPacker  k w) : call Tryz.prog w 188 [] k :=
  calls_of_body Tryz.func188 (b_frame_NewPacker_eq  k w ▸ h) (Nat.le_of_ble_eq_true rfl)
/-! ### portage/frame.NewUnpacker -/
def b_frame_NewUnpacker (t0 : Value) (k : K) (w : World) : Prop :=
  call Tryz.prog w 222 [t0] fun t4 w =>
  bld w #[(0, 1), (1, 1)] #[.slice none 0 0, .bool false] [(0, t4)] fun t5 w =>
  box w 330 t5 fun t6 w =>
  k t6 w
theorem b_frame_NewUnpacker_eq (t0 : Value) (k : K) (w : World) : b_frame_NewUnpacker t0 k w = bodyW Tryz.prog [] Tryz.f241 [t0] k w := by kernel_rfl
/-- portage/frame.NewUnpacker -/
theorem b_frame_NewUnpacker_walk {t0 : Value} {k : K} {w : World} (h : b_frame_NewUnpacker t0 k w) : call Tryz.prog w 241 [t0] k :=
  calls_of_body Tryz.func241 (b_frame_NewUnpacker_eq t0 k w ▸ h) (Nat.le_of_ble_eq_true rfl)
/-! ### (*portage/frame.Packer).Byte -/
def b_frame_Packer_Byte (t0 t1 : Value) (k : K) (w : World) : Prop :=
  call Tryz.prog w 221 [t0, (.int .i64 1), t1] fun t7 w =>
  k t7 w
theorem b_frame_Packer_Byte_eq (t0 t1 : Value) (k : K) (w : World) : b_frame_Packer_Byte t0 t1 k w = bodyW Tryz.prog [] Tryz.f189 [t0, t1] k w := by kernel_rfl
/-- (*portage/frame.Packer).Byte -/
theorem b_frame_Packer_Byte_walk {t0 t1 : Value} {k : K} {w : World} (h : b_frame_Packer_Byte t0 t1 k w) : call Tryz.prog w 189 [t0, t1] k :=
  calls_of_body Tryz.func189 (b_frame_Packer_Byte_eq t0 t1 k w ▸ h) (Nat.le_of_ble_eq_true rfl)
/-! ### (*portage/frame.Packer).Bytes -/
def b_frame_Packer_Bytes (t0 : Value) (k : K) (w : World) : Prop :=
  nn w t0 fun t5 w =>
  add w 1 t5 fun t6 w =>
  ld w t6 fun t7 w =>
  Br t7 (
    k (.tuple #[(.slice none 0 0), (.iface 149 (.int .i64 20))]) w
  ) (
    nn w t0 fun t10 w =>
    add w 0 t10 fun t11 w =>
    ld w t11 fun t12 w =>
    call Tryz.prog w 222 [t12] fun t13 w =>
    k (.tuple #[t13, .nilIface]) w
  )
theorem b_frame_Packer_Bytes_eq (t0 : Value) (k : K) (w : World) : b_frame_Packer_Bytes t0 k w = bodyW Tryz.prog [] Tryz.f191 [t0] k w := by kernel_rfl
/-- (*portage/frame.Packer).Bytes -/
theorem b_frame_Packer_Bytes_walk {t0 : Value} {k : K} {w : World} (h : b_frame_Packer_Bytes t0 k w) : call Tryz.prog w 191 [t0] k :=
  calls_of_body Tryz.func191 (b_frame_Packer_Bytes_eq t0 k w ▸ h) (Nat.le_of_ble_eq_true rfl)
/-! ### (*portage/frame.Packer).Long -/
def b_frame_Packer_Long (t0 t1 : Value) (k : K) (w : World) : Prop :=
  call Tryz.prog w 221 [t0, (.int .i64 8), t1] fun t7 w =>
  k t7 w
theorem b_frame_Packer_Long_eq (t0 t1 : Value) (k : K) (w : World) : b_frame_Packer_Long t0 t1 k w = bodyW Tryz.prog [] Tryz.f190 [t0, t1] k w := by kernel_rfl
/-- (*portage/frame.Packer).Long -/
theorem b_frame_Packer_Long_walk {t0 t1 : Value} {k : K} {w : World} (h : b_frame_Packer_Long t0 t1 k w) : call Tryz.prog w 190 [t0, t1] k :=
  calls_of_body Tryz.func190 (b_frame_Packer_Long_eq t0 t1 k w ▸ h) (Nat.le_of_ble_eq_true rfl)
/-! ### portage/frame.Put -/
def b_frame_Put (t0 t1 : Value) (k : K) (w : World) : Prop :=
  len w t1 fun t8 w =>
  bin w .gtr t8 (.int .i64 122) fun t9 w =>
  Br t9 (
    k (.tuple #[(.slice none 0 0), (.iface 149 (.int .i64 10))]) w
  ) (
    mks w 5 1 1 #[.int .u8 0] (.int .i64 124) (.int .i64 128) fun t11 w =>
    len w t1 fun t16 w =>
    conv w .u8 t16 fun t17 w =>
    idx w 1 t11 (.int .i64 0) fun t18 w =>
    st w 1 t18 t0 fun _ w =>
    idx w 1 t11 (.int .i64 1) fun t19 w =>
    st w 1 t19 t17 fun _ w =>
    cut w 1 t11 (some (.int .i64 2)) none none fun t21 w =>
    cpy w 1 t21 t1 fun t23 w =>
    bldS w 229 1 1 [.slice none 0 0] [(0, t11)] fun t26 w =>
    call Tryz.prog w 224 [t26] fun t27 w =>
    call Tryz.prog w 223 [t27] fun t28 w =>
    app w 5 1 1 #[.int .u8 0] t11 t28 fun t29 w =>
    k (.tuple #[t29, .nilIface]) w
  )
theorem b_frame_Put_eq (t0 t1 : Value) (k : K) (w : World) : b_frame_Put t0 t1 k w = bodyW Tryz.prog [] Tryz.f192 [t0, t1] k w := by kernel_rfl
/-- portage/frame.Put -/
theorem b_frame_Put_walk {t0 t1 : Value} {k : K} {w : World} (h : b_frame_Put t0 t1 k w) : call Tryz.prog w 192 [t0, t1] k :=
  calls_of_body Tryz.func192 (b_frame_Put_eq t0 t1 k w ▸ h) (Nat.le_of_ble_eq_true rfl)
/-! ### portage/frame.Sum -/
def b_frame_Sum (t0 : Value) (k : K) (w : World) : Prop :=
  len w t0 fun t10 w =>
  loop [(.int .u32 4294967295), (.int .i64 0)] w fun J1 s1 next1 w =>
  bin w .lss (at' s1 1) t10 fun t12 w =>
  Br t12 (
    idx w 1 t0 (at' s1 1) fun t13 w =>
    ld w t13 fun t14 w =>
    len w t14 fun t16 w =>
    loop [(at' s1 0), (.int .i64 0)] w fun J2 s2 next2 w =>
    bin w .lss (at' s2 1) t16 fun t18 w =>
    Br t18 (
      idx w 1 t14 (at' s2 1) fun t19 w =>
      ld w t19 fun t20 w =>
      conv w .u32 t20 fun t23 w =>
      bin w .xor (at' s2 0) t23 fun t24 w =>
      loop [t24, (.int .i64 0)] w fun J3 s3 next3 w =>
      bin w .lss (at' s3 1) (.int .i64 8) fun t26 w =>
      Br t26 (
        bin w .and (at' s3 0) (.int .u32 1) fun t28 w =>
        bin w .shr (at' s3 0) (.int .u64 1) fun t30 w =>
        bin w .eql t28 (.int .u32 1) fun t32 w =>
        Br t32 (
          bin w .xor t30 (.int .u32 3988292384) fun t34 w =>
          bin w .add (at' s3 1) (.int .i64 1) fun t35 w =>
          next3 [t34, t35] w
        ) (
          bin w .add (at' s3 1) (.int .i64 1) fun t35_1 w =>
          next3 [t30, t35_1] w
        )
      ) (
        bin w .add (at' s2 1) (.int .i64 1) fun t36 w =>
        next2 [(at' s3 0), t36] w
      )
    ) (
      bin w .add (at' s1 1) (.int .i64 1) fun t37 w =>
      next1 [(at' s2 0), t37] w
    )
  ) (
    un w .xor (at' s1 0) fun t39 w =>
    k t39 w
  )
theorem b_frame_Sum_eq (t0 : Value) (k : K) (w : World) : b_frame_Sum t0 k w = bodyW Tryz.prog [(2003, [3, 11]), (1006, [3, 17]), (10, [3, 25])] Tryz.f224 [t0] k w := by kernel_rfl
/-- portage/frame.Sum -/
theorem b_frame_Sum_walk {t0 : Value} {k : K} {w : World} (h : b_frame_Sum t0 k w) : call Tryz.prog w 224 [t0] k :=
  calls_of_body Tryz.func224 (b_frame_Sum_eq t0 k w ▸ h) (Nat.le_of_ble_eq_true rfl)
/-! ### (*portage/frame.Unpacker).Byte -/
def b_frame_Unpacker_Byte (t0 : Value) (k : K) (w : World) : Prop :=
  call Tryz.prog w 253 [t0, (.int .i64 1)] fun t4 w =>
  k t4 w
theorem b_frame_Unpacker_Byte_eq (t0 : Value) (k : K) (w : World) : b_frame_Unpacker_Byte t0 k w = bodyW Tryz.prog [] Tryz.f242 [t0] k w := by kernel_rfl
/-- (*portage/frame.Unpacker).Byte -/
theorem b_frame_Unpacker_Byte_walk {t0 : Value} {k : K} {w : World} (h : b_frame_Unpacker_Byte t0 k w) : call Tryz.prog w 242 [t0] k :=
  calls_of_body Tryz.func242 (b_frame_Unpacker_Byte_eq t0 k w ▸ h) (Nat.le_of_ble_eq_true rfl)
/-! ### (*portage/frame.Unpacker).Long -/
def b_frame_Unpacker_Long (t0 : Value) (k : K) (w : World) : Prop :=
  call Tryz.prog w 253 [t0, (.int .i64 8)] fun t4 w =>
  k t4 w
theorem b_frame_Unpacker_Long_eq (t0 : Value) (k : K) (w : World) : b_frame_Unpacker_Long t0 k w = bodyW Tryz.prog [] Tryz.f243 [t0] k w := by kernel_rfl
/-- (*portage/frame.Unpacker).Long -/
theorem b_frame_Unpacker_Long_walk {t0 : Value} {k : K} {w : World} (h : b_frame_Unpacker_Long t0 k w) : call Tryz.prog w 243 [t0] k :=
  calls_of_body Tryz.func243 (b_frame_Unpacker_Long_eq t0 k w ▸ h) (Nat.le_of_ble_eq_true rfl)
/-! ### (*portage/frame.Unpacker).take -/
def b_frame_Unpacker_take (t0 t1 : Value) (k : K) (w : World) : Prop :=
  nn w t0 fun t9 w =>
  add w 1 t9 fun t10 w =>
  ld w t10 fun t11 w =>
  Br t11 (
    nn w t0 fun t22 w =>
    add w 1 t22 fun t23 w =>
    st w 1 t23 (.bool true) fun _ w =>
    k (.int .i64 0) w
  ) (
    nn w t0 fun t14 w =>
    add w 0 t14 fun t15 w =>
    ld w t15 fun t16 w =>
    len w t16 fun t17 w =>
    bin w .lss t17 t1 fun t19 w =>
    Br t19 (
      nn w t0 fun t22_1 w =>
      add w 1 t22_1 fun t23_1 w =>
      st w 1 t23_1 (.bool true) fun _ w =>
      k (.int .i64 0) w
    ) (
      nn w t0 fun t25 w =>
      add w 0 t25 fun t26 w =>
      ld w t26 fun t27 w =>
      cut w 1 t27 none (some t1) none fun t29 w =>
      len w t29 fun t30 w =>
      loop [(.int .u64 0), (.int .i64 0)] w fun J1 s1 next1 w =>
      bin w .lss (at' s1 1) t30 fun t32 w =>
      Br t32 (
        idx w 1 t29 (at' s1 1) fun t33 w =>
        ld w t33 fun t34 w =>
        bin w .shl (at' s1 0) (.int .u64 8) fun t36 w =>
        conv w .u64 t34 fun t38 w =>
        bin w .or t36 t38 fun t39 w =>
        bin w .add (at' s1 1) (.int .i64 1) fun t40 w =>
        next1 [t39, t40] w
      ) (
        nn w t0 fun t43 w =>
        add w 0 t43 fun t44 w =>
        ld w t44 fun t45 w =>
        cut w 1 t45 (some t1) none none fun t47 w =>
        nn w t0 fun t48 w =>
        add w 0 t48 fun t49 w =>
        st w 1 t49 t47 fun _ w =>
        bin w .gtr (at' s1 0) (.int .u64 4611686018427387903) fun t51 w =>
        Br t51 (
          nn w t0 fun t53 w =>
          add w 1 t53 fun t54 w =>
          st w 1 t54 (.bool true) fun _ w =>
          k (.int .i64 0) w
        ) (
          conv w .i64 (at' s1 0) fun t56 w =>
          k t56 w
        )
      )
    )
  )
theorem b_frame_Unpacker_take_eq (t0 t1 : Value) (k : K) (w : World) : b_frame_Unpacker_take t0 t1 k w = bodyW Tryz.prog [(6, [5, 31])] Tryz.f253 [t0, t1] k w := by kernel_rfl
/-- (*portage/frame.Unpacker).take -/
theorem b_frame_Unpacker_take_walk {t0 t1 : Value} {k : K} {w : World} (h : b_frame_Unpacker_take t0 t1 k w) : call Tryz.prog w 253 [t0, t1] k :=
  calls_of_body Tryz.func253 (b_frame_Unpacker_take_eq t0 t1 k w ▸ h) (Nat.le_of_ble_eq_true rfl)
/-! ### portage/frame.body -/
def b_frame_body (t0 : Value) (k : K) (w : World) : Prop :=
  idx w 1 t0 (.int .i64 1) fun t6 w =>
  ld w t6 fun t7 w =>
  conv w .i64 t7 fun t8 w =>
  bin w .gtr t8 (.int .i64 122) fun t10 w =>
  Br t10 (
    k (.tuple #[(.slice none 0 0), (.iface 149 (.int .i64 14))]) w
  ) (
    bin w .add (.int .i64 2) t8 fun t14 w =>
    cut w 1 t0 (some t14) (some (.int .i64 124)) none fun t15 w =>
    call Tryz.prog w 254 [t15, (.func (.func 255) #[] #[])] fun t16 w =>
    Br t16 (
      k (.tuple #[(.slice none 0 0), (.iface 149 (.int .i64 14))]) w
    ) (
      bin w .add (.int .i64 2) t8 fun t21 w =>
      cut w 1 t0 (some (.int .i64 2)) (some t21) none fun t22 w =>
      call Tryz.prog w 222 [t22] fun t23 w =>
      k (.tuple #[t23, .nilIface]) w
    )
  )
theorem b_frame_body_eq (t0 : Value) (k : K) (w : World) : b_frame_body t0 k w = bodyW Tryz.prog [] Tryz.f252 [t0] k w := by kernel_rfl
/-- portage/frame.body -/
theorem b_frame_body_walk {t0 : Value} {k : K} {w : World} (h : b_frame_body t0 k w) : call Tryz.prog w 252 [t0] k :=
  calls_of_body Tryz.func252 (b_frame_body_eq t0 k w ▸ h) (Nat.le_of_ble_eq_true rfl)
/-! ### portage/frame.body$1 -/
def b_frame_body_c1 (t0 : Value) (k : K) (w : World) : Prop :=
  bin w .neq t0 (.int .u8 0) fun t4 w =>
  k t4 w
theorem b_frame_body_c1_eq (t0 : Value) (k : K) (w : World) : b_frame_body_c1 t0 k w = bodyW Tryz.prog [] Tryz.f255 [t0] k w := by kernel_rfl
/-- portage/frame.body$1 -/
theorem b_frame_body_c1_walk {t0 : Value} {k : K} {w : World} (h : b_frame_body_c1 t0 k w) : call Tryz.prog w 255 [t0] k :=
  calls_of_body Tryz.func255 (b_frame_body_c1_eq t0 k w ▸ h) (Nat.le_of_ble_eq_true rfl)
/-! ### portage/frame.check -/
def b_frame_check (t0 : Value) (k : K) (w : World) : Prop :=
  len w t0 fun t5 w =>
  bin w .neq t5 (.int .i64 128) fun t6 w =>
  Br t6 (
    k (.iface 149 (.int .i64 11)) w
  ) (
    draw w fun w =>
    cut w 1 t0 (some (.int .i64 124)) none none fun t10 w =>
    cut w 1 t0 none (some (.int .i64 124)) none fun t12 w =>
    bldS w 229 1 1 [.slice none 0 0] [(0, t12)] fun t13 w =>
    call Tryz.prog w 224 [t13] fun t14 w =>
    call Tryz.prog w 223 [t14] fun t15 w =>
    call Tryz.prog w 244 [t10, t15] fun t16 w =>
    un w .not t16 fun t17 w =>
    Br t17 (
      k (.iface 149 (.int .i64 12)) w
    ) (
      k .nilIface w
    )
  )
theorem b_frame_check_eq (t0 : Value) (k : K) (w : World) : b_frame_check t0 k w = bodyW Tryz.prog [] Tryz.f251 [t0] k w := by kernel_rfl
/-- portage/frame.check -/
theorem b_frame_check_walk {t0 : Value} {k : K} {w : World} (h : b_frame_check t0 k w) : call Tryz.prog w 251 [t0] k :=
  calls_of_body Tryz.func251 (b_frame_check_eq t0 k w ▸ h) (Nat.le_of_ble_eq_true rfl)
/-! ### portage/frame.word -/
def b_frame_word (t0 : Value) (k : K) (w : World) : Prop :=
  bin w .shr t0 (.int .u64 24) fun t4 w =>
  conv w .u8 t4 fun t5 w =>
  bin w .shr t0 (.int .u64 16) fun t7 w =>
  conv w .u8 t7 fun t8 w =>
  bin w .shr t0 (.int .u64 8) fun t10 w =>
  conv w .u8 t10 fun t11 w =>
  conv w .u8 t0 fun t13 w =>
  bldS w 5 4 1 [.int .u8 0] [(0, t5), (1, t8), (2, t11), (3, t13)] fun t14 w =>
  k t14 w
theorem b_frame_word_eq (t0 : Value) (k : K) (w : World) : b_frame_word t0 k w = bodyW Tryz.prog [] Tryz.f223 [t0] k w := by kernel_rfl
/-- portage/frame.word -/
theorem b_frame_word_walk {t0 : Value} {k : K} {w : World} (h : b_frame_word t0 k w) : call Tryz.prog w 223 [t0] k :=
  calls_of_body Tryz.func223 (b_frame_word_eq t0 k w ▸ h) (Nat.le_of_ble_eq_true rfl)
end Go.Proofs.YtemenmmekddjaaaGreatDoor
