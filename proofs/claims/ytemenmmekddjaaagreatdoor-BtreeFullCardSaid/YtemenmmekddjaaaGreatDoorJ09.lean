/- The bodies of functions, written out by program from the loaded translation; each is held against it by the kernel. No condition. -/
import Derived.Test.YtemenmmekddjaaaGreatDoorProg
import Derived.KernelRfl
import Derived.Test.YtemenmmekddjaaaGreatDoorJ03
set_option linter.all false
set_option linter.unusedVariables false
set_option linter.unusedSimpArgs false
set_option linter.unnecessarySimpa false
set_option linter.unusedSectionVars false
set_option linter.constructorNameAsVariable false
namespace Go.Proofs.YtemenmmekddjaaaGreatDoor
open Go Go.Wx Go.W
set_option maxRecDepth 100000
set_option linter.unusedVariables false
/-! ### (*portage/frame.Packer).put -/
def b_frame_Packer_putj7 (t0_7 t1_7 t8_6 t9_6 t10_7 t11_6 : Value) (next1 : List Value → World → Prop) (k : K) (w : World) : Prop :=
  nn w t0_7 fun t147 w =>
  add w 0 t147 fun t148 w =>
  ld w t148 fun t149 w =>
  conv w .u8 t8_6 fun t151 w =>
  bldS w 5 1 1 [.int .u8 0] [(0, t151)] fun t152 w =>
  app w 5 1 1 #[.int .u8 0] t149 t152 fun t153 w =>
  nn w t0_7 fun t154 w =>
  add w 0 t154 fun t155 w =>
  st w 1 t155 t153 fun _ w =>
  bin w .add t11_6 (.int .i64 1) fun t156 w =>
  next1 [t156] w
def b_frame_Packer_putj6 (t0_6 t1_6 t8_5 t9_5 t10_6 t11_5 : Value) (next1 : List Value → World → Prop) (k : K) (w : World) : Prop :=
  nn w t0_6 fun t127 w =>
  add w 1 t127 fun t128 w =>
  ld w t128 fun t129 w =>
  Br t129 (
    nn w t0_6 fun t143 w =>
    add w 1 t143 fun t144 w =>
    st w 1 t144 (.bool true) fun _ w =>
    b_frame_Packer_putj7 t0_6 t1_6 t8_5 t9_5 t10_6 t11_5 next1 k w
  ) (
    bin w .lss t8_5 (.int .i64 0) fun t132 w =>
    Br t132 (
      nn w t0_6 fun t143_1 w =>
      add w 1 t143_1 fun t144_1 w =>
      st w 1 t144_1 (.bool true) fun _ w =>
      b_frame_Packer_putj7 t0_6 t1_6 t8_5 t9_5 t10_6 t11_5 next1 k w
    ) (
      bin w .eql t1_6 (.int .i64 1) fun t136 w =>
      Br t136 (
        bin w .shr t8_5 (.int .u64 8) fun t139 w =>
        bin w .neq t139 (.int .i64 0) fun t140 w =>
        nn w t0_6 fun t143_2 w =>
        add w 1 t143_2 fun t144_2 w =>
        st w 1 t144_2 t140 fun _ w =>
        b_frame_Packer_putj7 t0_6 t1_6 t8_5 t9_5 t10_6 t11_5 next1 k w
      ) (
        nn w t0_6 fun t143_3 w =>
        add w 1 t143_3 fun t144_3 w =>
        st w 1 t144_3 (.bool false) fun _ w =>
        b_frame_Packer_putj7 t0_6 t1_6 t8_5 t9_5 t10_6 t11_5 next1 k w
      )
    )
  )
def b_frame_Packer_putj5 (t0_5 t1_5 t8_4 t9_4 t10_5 t11_4 : Value) (next1 : List Value → World → Prop) (k : K) (w : World) : Prop :=
  nn w t0_5 fun t115 w =>
  add w 0 t115 fun t116 w =>
  ld w t116 fun t117 w =>
  bin w .shr t8_4 (.int .u64 8) fun t119 w =>
  conv w .u8 t119 fun t120 w =>
  bldS w 5 1 1 [.int .u8 0] [(0, t120)] fun t121 w =>
  app w 5 1 1 #[.int .u8 0] t117 t121 fun t122 w =>
  nn w t0_5 fun t123 w =>
  add w 0 t123 fun t124 w =>
  st w 1 t124 t122 fun _ w =>
  b_frame_Packer_putj6 t0_5 t1_5 t8_4 t9_4 t10_5 t11_4 next1 k w
def b_frame_Packer_putj4 (t0_4 t1_4 t8_3 t9_3 t10_4 t11_3 : Value) (next1 : List Value → World → Prop) (k : K) (w : World) : Prop :=
  nn w t0_4 fun t95 w =>
  add w 1 t95 fun t96 w =>
  ld w t96 fun t97 w =>
  Br t97 (
    nn w t0_4 fun t111 w =>
    add w 1 t111 fun t112 w =>
    st w 1 t112 (.bool true) fun _ w =>
    b_frame_Packer_putj5 t0_4 t1_4 t8_3 t9_3 t10_4 t11_3 next1 k w
  ) (
    bin w .lss t8_3 (.int .i64 0) fun t100 w =>
    Br t100 (
      nn w t0_4 fun t111_1 w =>
      add w 1 t111_1 fun t112_1 w =>
      st w 1 t112_1 (.bool true) fun _ w =>
      b_frame_Packer_putj5 t0_4 t1_4 t8_3 t9_3 t10_4 t11_3 next1 k w
    ) (
      bin w .eql t1_4 (.int .i64 2) fun t104 w =>
      Br t104 (
        bin w .shr t8_3 (.int .u64 16) fun t107 w =>
        bin w .neq t107 (.int .i64 0) fun t108 w =>
        nn w t0_4 fun t111_2 w =>
        add w 1 t111_2 fun t112_2 w =>
        st w 1 t112_2 t108 fun _ w =>
        b_frame_Packer_putj5 t0_4 t1_4 t8_3 t9_3 t10_4 t11_3 next1 k w
      ) (
        nn w t0_4 fun t111_3 w =>
        add w 1 t111_3 fun t112_3 w =>
        st w 1 t112_3 (.bool false) fun _ w =>
        b_frame_Packer_putj5 t0_4 t1_4 t8_3 t9_3 t10_4 t11_3 next1 k w
      )
    )
  )
def b_frame_Packer_putj3 (t0_3 t1_3 t8_2 t9_2 t10_3 t11_2 : Value) (next1 : List Value → World → Prop) (k : K) (w : World) : Prop :=
  nn w t0_3 fun t80 w =>
  add w 0 t80 fun t81 w =>
  ld w t81 fun t82 w =>
  bin w .shr t8_2 (.int .u64 24) fun t84 w =>
  conv w .u8 t84 fun t85 w =>
  bin w .shr t8_2 (.int .u64 16) fun t87 w =>
  conv w .u8 t87 fun t88 w =>
  bldS w 5 2 1 [.int .u8 0] [(0, t85), (1, t88)] fun t89 w =>
  app w 5 1 1 #[.int .u8 0] t82 t89 fun t90 w =>
  nn w t0_3 fun t91 w =>
  add w 0 t91 fun t92 w =>
  st w 1 t92 t90 fun _ w =>
  b_frame_Packer_putj4 t0_3 t1_3 t8_2 t9_2 t10_3 t11_2 next1 k w
def b_frame_Packer_putj2 (t0_2 t1_2 t8_1 t9_1 t10_2 t11_1 : Value) (next1 : List Value → World → Prop) (k : K) (w : World) : Prop :=
  nn w t0_2 fun t60 w =>
  add w 1 t60 fun t61 w =>
  ld w t61 fun t62 w =>
  Br t62 (
    nn w t0_2 fun t76 w =>
    add w 1 t76 fun t77 w =>
    st w 1 t77 (.bool true) fun _ w =>
    b_frame_Packer_putj3 t0_2 t1_2 t8_1 t9_1 t10_2 t11_1 next1 k w
  ) (
    bin w .lss t8_1 (.int .i64 0) fun t65 w =>
    Br t65 (
      nn w t0_2 fun t76_1 w =>
      add w 1 t76_1 fun t77_1 w =>
      st w 1 t77_1 (.bool true) fun _ w =>
      b_frame_Packer_putj3 t0_2 t1_2 t8_1 t9_1 t10_2 t11_1 next1 k w
    ) (
      bin w .eql t1_2 (.int .i64 4) fun t69 w =>
      Br t69 (
        bin w .shr t8_1 (.int .u64 32) fun t72 w =>
        bin w .neq t72 (.int .i64 0) fun t73 w =>
        nn w t0_2 fun t76_2 w =>
        add w 1 t76_2 fun t77_2 w =>
        st w 1 t77_2 t73 fun _ w =>
        b_frame_Packer_putj3 t0_2 t1_2 t8_1 t9_1 t10_2 t11_1 next1 k w
      ) (
        nn w t0_2 fun t76_3 w =>
        add w 1 t76_3 fun t77_3 w =>
        st w 1 t77_3 (.bool false) fun _ w =>
        b_frame_Packer_putj3 t0_2 t1_2 t8_1 t9_1 t10_2 t11_1 next1 k w
      )
    )
  )
def b_frame_Packer_putj1 (t0_1 t1_1 t8 t9 t10_1 t11 : Value) (next1 : List Value → World → Prop) (k : K) (w : World) : Prop :=
  nn w t0_1 fun t39 w =>
  add w 0 t39 fun t40 w =>
  ld w t40 fun t41 w =>
  bin w .shr t8 (.int .u64 56) fun t43 w =>
  conv w .u8 t43 fun t44 w =>
  bin w .shr t8 (.int .u64 48) fun t46 w =>
  conv w .u8 t46 fun t47 w =>
  bin w .shr t8 (.int .u64 40) fun t49 w =>
  conv w .u8 t49 fun t50 w =>
  bin w .shr t8 (.int .u64 32) fun t52 w =>
  conv w .u8 t52 fun t53 w =>
  bldS w 5 4 1 [.int .u8 0] [(0, t44), (1, t47), (2, t50), (3, t53)] fun t54 w =>
  app w 5 1 1 #[.int .u8 0] t41 t54 fun t55 w =>
  nn w t0_1 fun t56 w =>
  add w 0 t56 fun t57 w =>
  st w 1 t57 t55 fun _ w =>
  b_frame_Packer_putj2 t0_1 t1_1 t8 t9 t10_1 t11 next1 k w
def b_frame_Packer_put (t0 t1 t2 : Value) (k : K) (w : World) : Prop :=
  len w t2 fun t10 w =>
  loop [(.int .i64 0)] w fun J1 s1 next1 w =>
  bin w .lss (at' s1 0) t10 fun t12 w =>
  Br t12 (
    idx w 1 t2 (at' s1 0) fun t13 w =>
    ld w t13 fun t14 w =>
    bin w .eql t1 (.int .i64 8) fun t17 w =>
    Br t17 (
      nn w t0 fun t24 w =>
      add w 1 t24 fun t25 w =>
      ld w t25 fun t26 w =>
      Br t26 (
        nn w t0 fun t35 w =>
        add w 1 t35 fun t36 w =>
        st w 1 t36 (.bool true) fun _ w =>
        b_frame_Packer_putj1 t0 t1 t14 t2 t10 (at' s1 0) next1 k w
      ) (
        bin w .lss t14 (.int .i64 0) fun t29 w =>
        Br t29 (
          nn w t0 fun t35_1 w =>
          add w 1 t35_1 fun t36_1 w =>
          st w 1 t36_1 (.bool true) fun _ w =>
          b_frame_Packer_putj1 t0 t1 t14 t2 t10 (at' s1 0) next1 k w
        ) (
          bin w .gtr t14 (.int .i64 4611686018427387903) fun t33 w =>
          nn w t0 fun t35_2 w =>
          add w 1 t35_2 fun t36_2 w =>
          st w 1 t36_2 t33 fun _ w =>
          b_frame_Packer_putj1 t0 t1 t14 t2 t10 (at' s1 0) next1 k w
        )
      )
    ) (
      bin w .eql t1 (.int .i64 4) fun t19 w =>
      Br t19 (
        b_frame_Packer_putj2 t0 t1 t14 t2 t10 (at' s1 0) next1 k w
      ) (
        bin w .eql t1 (.int .i64 2) fun t21 w =>
        Br t21 (
          b_frame_Packer_putj4 t0 t1 t14 t2 t10 (at' s1 0) next1 k w
        ) (
          b_frame_Packer_putj6 t0 t1 t14 t2 t10 (at' s1 0) next1 k w
        )
      )
    )
  ) (
    k t0 w
  )
theorem b_frame_Packer_put_eq (t0 t1 t2 : Value) (k : K) (w : World) : b_frame_Packer_put t0 t1 t2 k w = bodyW Tryz.prog [(2, [11])] Tryz.f221 [t0, t1, t2] k w := by kernel_rfl
/-- (*portage/frame.Packer).put -/
theorem b_frame_Packer_put_walk {t0 t1 t2 : Value} {k : K} {w : World} (h : b_frame_Packer_put t0 t1 t2 k w) : call Tryz.prog w 221 [t0, t1, t2] k :=
  calls_of_body Tryz.func221 (b_frame_Packer_put_eq t0 t1 t2 k w ▸ h) (Nat.le_of_ble_eq_true rfl)
end Go.Proofs.YtemenmmekddjaaaGreatDoor
