/- The bodies of functions, written out by program from the loaded translation; each is held against it by the kernel. No condition. -/
import Derived.Test.YtemenmmekddjaaaGreatDoorProg
import Derived.KernelRfl
import Derived.Test.YtemenmmekddjaaaGreatDoorJ03
set_option linter.all false
set_option linter.unusedVariables false
set_option linter.unusedSimpArgs false
set_option linter.unnecessarySimpa false
set_option linter.unusedSectionVars false
set_option linter.constructorNameAsVariable false
namespace Go.Proofs.YtemenmmekddjaaaGreatDoor
open Go Go.Wx Go.W
set_option maxRecDepth 100000
set_option linter.unusedVariables false
/-! ### portage/portagelaw12.BtreeFull -/
def b_portagelaw12_BtreeFull (t0 t1 : Value) (k : K) (w : World) : Prop :=
  len w t0 fun t21 w =>
  bin w .lss t21 (.int .i64 1) fun t22 w =>
  Br t22 (
    call Tryz.prog w 10 [] fun t33 w =>
    k t33 w
  ) (
    len w t0 fun t25 w =>
    bin w .gtr t25 (.int .i64 3) fun t26 w =>
    Br t26 (
      call Tryz.prog w 10 [] fun t33_1 w =>
      k t33_1 w
    ) (
      len w t1 fun t30 w =>
      bin w .gtr t30 (.int .i64 120) fun t31 w =>
      Br t31 (
        call Tryz.prog w 10 [] fun t33_2 w =>
        k t33_2 w
      ) (
        len w t0 fun t35 w =>
        loop [(.int .i64 0)] w fun J1 s1 next1 w =>
        bin w .lss (at' s1 0) t35 fun t37 w =>
        Br t37 (
          idx w 1 t0 (at' s1 0) fun t38 w =>
          ld w t38 fun t39 w =>
          bin w .lss t39 (.int .i64 3) fun t41 w =>
          Br t41 (
            call Tryz.prog w 10 [] fun t46 w =>
            k t46 w
          ) (
            bin w .gtr t39 (.int .i64 60) fun t44 w =>
            Br t44 (
              call Tryz.prog w 10 [] fun t46_1 w =>
              k t46_1 w
            ) (
              bin w .add (at' s1 0) (.int .i64 1) fun t47 w =>
              next1 [t47] w
            )
          )
        ) (
          call Tryz.prog w 11 [t0] fun t49 w =>
          eq w false true .ptr t49 (.pointer none) fun t51 w =>
          Br t51 (
            k (.bool false) w
          ) (
            nn w t49 fun t54 w =>
            add w 1 t54 fun t55 w =>
            ld w t55 fun t56 w =>
            eq w false true .ptr t56 (.pointer none) fun t57 w =>
            Br t57 (
              k (.bool false) w
            ) (
              len w t1 fun t60 w =>
              loop [(.int .i64 0)] w fun J2 s2 next2 w =>
              bin w .lss (at' s2 0) t60 fun t62 w =>
              Br t62 (
                idx w 4 t1 (at' s2 0) fun t63 w =>
                ldN w 4 t63 fun t64 w =>
                new w 35 #[.int .i64 0, .int .i64 0, .int .i64 0, .int .i64 0] fun t9 w =>
                st w 4 t9 t64 fun _ w =>
                drawS w fun S w =>
                nn w t49 fun t66 w =>
                add w 1 t66 fun t67 w =>
                nn w t49 fun t71 w =>
                add w 0 t71 fun t72 w =>
                held S w (fun w k => ld w t67 k) fun t68 w =>
                held S w (fun w k => ld w t72 k) fun t73 w =>
                call Tryz.prog w 12 [t68] fun t69 w =>
                S w ∧
                call Tryz.prog w 13 [t73] fun t74 w =>
                len w t69 fun t76 w =>
                loop [(.slice none 0 0), (.int .i64 0)] w fun J3 s3 next3 w =>
                bin w .lss (at' s3 1) t76 fun t78 w =>
                Br t78 (
                  idx w 1 t69 (at' s3 1) fun t79 w =>
                  ld w t79 fun t80 w =>
                  nn w t49 fun t83 w =>
                  add w 1 t83 fun t84 w =>
                  ld w t84 fun t85 w =>
                  call Tryz.prog w 14 [t85, t80] fun t87 w =>
                  bldS w 3 1 1 [.int .i64 0] [(0, t87)] fun t88 w =>
                  app w 3 1 8 #[.int .i64 0] (at' s3 0) t88 fun t89 w =>
                  bin w .add (at' s3 1) (.int .i64 1) fun t90 w =>
                  next3 [t89, t90] w
                ) (
                  ldN w 4 t9 fun t93 w =>
                  call Tryz.prog w 15 [t49, t93] fun t94 w =>
                  tup w 0 t94 fun t95 w =>
                  tup w 1 t94 fun t96 w =>
                  un w .not t95 fun t98 w =>
                  Br t98 (
                    k (.bool false) w
                  ) (
                    call Tryz.prog w 16 [t49] fun t101 w =>
                    un w .not t101 fun t102 w =>
                    Br t102 (
                      k (.bool false) w
                    ) (
                      un w .not t96 fun t105 w =>
                      Br t105 (
                        bin w .add (at' s2 0) (.int .i64 1) fun t152 w =>
                        next2 [t152] w
                      ) (
                        nn w t49 fun t107 w =>
                        add w 1 t107 fun t108 w =>
                        ld w t108 fun t109 w =>
                        call Tryz.prog w 12 [t109] fun t110 w =>
                        len w t110 fun t112 w =>
                        len w t69 fun t114 w =>
                        bin w .neq t112 t114 fun t115 w =>
                        Br t115 (
                          k (.bool false) w
                        ) (
                          nn w t49 fun t118 w =>
                          add w 0 t118 fun t119 w =>
                          ld w t119 fun t120 w =>
                          call Tryz.prog w 13 [t120] fun t121 w =>
                          bin w .neq t121 t74 fun t123 w =>
                          Br t123 (
                            k (.bool false) w
                          ) (
                            len w t110 fun t126 w =>
                            loop [(.int .i64 0)] w fun J4 s4 next4 w =>
                            bin w .lss (at' s4 0) t126 fun t128 w =>
                            Br t128 (
                              idx w 1 t110 (at' s4 0) fun t130 w =>
                              ld w t130 fun t131 w =>
                              drawS w fun S w =>
                              idx w 1 t69 (at' s4 0) fun t134 w =>
                              held S w (fun w k => ld w t134 k) fun t135 w =>
                              bin w .neq t135 t131 fun t137 w =>
                              Br t137 (
                                S w ∧
                                k (.bool false) w
                              ) (
                                nn w t49 fun t140 w =>
                                add w 1 t140 fun t141 w =>
                                idx w 1 (at' s3 0) (at' s4 0) fun t147 w =>
                                held S w (fun w k => ld w t141 k) fun t142 w =>
                                held S w (fun w k => ld w t147 k) fun t148 w =>
                                call Tryz.prog w 14 [t142, t131] fun t144 w =>
                                S w ∧
                                bin w .neq t144 t148 fun t149 w =>
                                Br t149 (
                                  k (.bool false) w
                                ) (
                                  bin w .add (at' s4 0) (.int .i64 1) fun t151 w =>
                                  next4 [t151] w
                                )
                              )
                            ) (
                              bin w .add (at' s2 0) (.int .i64 1) fun t152_1 w =>
                              next2 [t152_1] w
                            )
                          )
                        )
                      )
                    )
                  )
                )
              ) (
                call Tryz.prog w 10 [] fun t153 w =>
                k t153 w
              )
            )
          )
        )
      )
    )
  )
theorem b_portagelaw12_BtreeFull_eq (t0 t1 : Value) (k : K) (w : World) : b_portagelaw12_BtreeFull t0 t1 k w = bodyW Tryz.prog [(4, [36]), (2013, [61]), (18, [12, 77]), (30, [127])] Tryz.f3 [t0, t1] k w := by kernel_rfl
/-- portage/portagelaw12.BtreeFull -/
theorem b_portagelaw12_BtreeFull_walk {t0 t1 : Value} {k : K} {w : World} (h : b_portagelaw12_BtreeFull t0 t1 k w) : call Tryz.prog w 3 [t0, t1] k :=
  calls_of_body Tryz.func3 (b_portagelaw12_BtreeFull_eq t0 t1 k w ▸ h) (Nat.le_of_ble_eq_true rfl)
/-! ### portage/portagelaw12.BtreeSwaps -/
def b_portagelaw12_BtreeSwapsj1 (t2 : Value) (k : K) (w : World) : Prop :=
  k t2 w
def b_portagelaw12_BtreeSwapsj2 (t2_1 : Value) (k : K) (w : World) : Prop :=
  k t2_1 w
def b_portagelaw12_BtreeSwapsj3 (t2_2 : Value) (k : K) (w : World) : Prop :=
  k t2_2 w
def b_portagelaw12_BtreeSwapsj4 (t2_3 : Value) (k : K) (w : World) : Prop :=
  k t2_3 w
def b_portagelaw12_BtreeSwapsj5 (t2_4 : Value) (k : K) (w : World) : Prop :=
  k t2_4 w
def b_portagelaw12_BtreeSwapsj6 (t2_5 : Value) (k : K) (w : World) : Prop :=
  k t2_5 w
def b_portagelaw12_BtreeSwapsj7 (t2_6 : Value) (k : K) (w : World) : Prop :=
  k t2_6 w
def b_portagelaw12_BtreeSwaps (t0 : Value) (k : K) (w : World) : Prop :=
  box w 62 t0 fun t1 w =>
  drawS w fun S w =>
  add w 0 t1 fun t29 w =>
  add w 1 t1 fun t31 w =>
  add w 2 t1 fun t33 w =>
  add w 3 t1 fun t35 w =>
  held S w (fun w k => ld w t29 k) fun t30 w =>
  held S w (fun w k => ld w t31 k) fun t32 w =>
  held S w (fun w k => ld w t33 k) fun t34 w =>
  held S w (fun w k => ld w t35 k) fun t36 w =>
  bldS w 3 3 1 [.int .i64 0] [(0, (.int .i64 200)), (1, (.int .i64 200)), (2, (.int .i64 200))] fun t37 w =>
  call Tryz.prog w 11 [t37] fun t38 w =>
  eq w false true .ptr t38 (.pointer none) fun t40 w =>
  Br t40 (
    eq w true true .ptr t38 (.pointer none) fun t74 w =>
    Br t74 (
      nn w t38 fun t77 w =>
      add w 1 t77 fun t78 w =>
      ld w t78 fun t79 w =>
      eq w true true .ptr t79 (.pointer none) fun t80 w =>
      Br t80 (
        call Tryz.prog w 10 [] fun t83 w =>
        b_portagelaw12_BtreeSwapsj1 t83 k w
      ) (
        b_portagelaw12_BtreeSwapsj1 (.bool false) k w
      )
    ) (
      b_portagelaw12_BtreeSwapsj1 (.bool false) k w
    )
  ) (
    nn w t38 fun t43 w =>
    add w 1 t43 fun t44 w =>
    ld w t44 fun t45 w =>
    eq w false true .ptr t45 (.pointer none) fun t46 w =>
    Br t46 (
      eq w true true .ptr t38 (.pointer none) fun t74_1 w =>
      Br t74_1 (
        nn w t38 fun t77_1 w =>
        add w 1 t77_1 fun t78_1 w =>
        ld w t78_1 fun t79_1 w =>
        eq w true true .ptr t79_1 (.pointer none) fun t80_1 w =>
        Br t80_1 (
          call Tryz.prog w 10 [] fun t83_1 w =>
          b_portagelaw12_BtreeSwapsj2 t83_1 k w
        ) (
          b_portagelaw12_BtreeSwapsj2 (.bool false) k w
        )
      ) (
        b_portagelaw12_BtreeSwapsj2 (.bool false) k w
      )
    ) (
      len w t30 fun t50 w =>
      bin w .gtr t50 (.int .i64 80) fun t51 w =>
      Br t51 (
        eq w true true .ptr t38 (.pointer none) fun t74_2 w =>
        Br t74_2 (
          nn w t38 fun t77_2 w =>
          add w 1 t77_2 fun t78_2 w =>
          ld w t78_2 fun t79_2 w =>
          eq w true true .ptr t79_2 (.pointer none) fun t80_2 w =>
          Br t80_2 (
            call Tryz.prog w 10 [] fun t83_2 w =>
            b_portagelaw12_BtreeSwapsj3 t83_2 k w
          ) (
            b_portagelaw12_BtreeSwapsj3 (.bool false) k w
          )
        ) (
          b_portagelaw12_BtreeSwapsj3 (.bool false) k w
        )
      ) (
        bin w .lss t32 (.int .i64 0) fun t55 w =>
        Br t55 (
          eq w true true .ptr t38 (.pointer none) fun t74_3 w =>
          Br t74_3 (
            nn w t38 fun t77_3 w =>
            add w 1 t77_3 fun t78_3 w =>
            ld w t78_3 fun t79_3 w =>
            eq w true true .ptr t79_3 (.pointer none) fun t80_3 w =>
            Br t80_3 (
              call Tryz.prog w 10 [] fun t83_3 w =>
              b_portagelaw12_BtreeSwapsj4 t83_3 k w
            ) (
              b_portagelaw12_BtreeSwapsj4 (.bool false) k w
            )
          ) (
            b_portagelaw12_BtreeSwapsj4 (.bool false) k w
          )
        ) (
          bin w .gtr t32 (.int .i64 2) fun t59 w =>
          Br t59 (
            eq w true true .ptr t38 (.pointer none) fun t74_4 w =>
            Br t74_4 (
              nn w t38 fun t77_4 w =>
              add w 1 t77_4 fun t78_4 w =>
              ld w t78_4 fun t79_4 w =>
              eq w true true .ptr t79_4 (.pointer none) fun t80_4 w =>
              Br t80_4 (
                call Tryz.prog w 10 [] fun t83_4 w =>
                b_portagelaw12_BtreeSwapsj5 t83_4 k w
              ) (
                b_portagelaw12_BtreeSwapsj5 (.bool false) k w
              )
            ) (
              b_portagelaw12_BtreeSwapsj5 (.bool false) k w
            )
          ) (
            len w t34 fun t63 w =>
            bin w .gtr t63 (.int .i64 50) fun t64 w =>
            Br t64 (
              eq w true true .ptr t38 (.pointer none) fun t74_5 w =>
              Br t74_5 (
                nn w t38 fun t77_5 w =>
                add w 1 t77_5 fun t78_5 w =>
                ld w t78_5 fun t79_5 w =>
                eq w true true .ptr t79_5 (.pointer none) fun t80_5 w =>
                Br t80_5 (
                  call Tryz.prog w 10 [] fun t83_5 w =>
                  b_portagelaw12_BtreeSwapsj6 t83_5 k w
                ) (
                  b_portagelaw12_BtreeSwapsj6 (.bool false) k w
                )
              ) (
                b_portagelaw12_BtreeSwapsj6 (.bool false) k w
              )
            ) (
              len w t36 fun t68 w =>
              len w t34 fun t70 w =>
              bin w .lss t68 t70 fun t71 w =>
              Br t71 (
                eq w true true .ptr t38 (.pointer none) fun t74_6 w =>
                Br t74_6 (
                  nn w t38 fun t77_6 w =>
                  add w 1 t77_6 fun t78_6 w =>
                  ld w t78_6 fun t79_6 w =>
                  eq w true true .ptr t79_6 (.pointer none) fun t80_6 w =>
                  Br t80_6 (
                    call Tryz.prog w 10 [] fun t83_6 w =>
                    b_portagelaw12_BtreeSwapsj7 t83_6 k w
                  ) (
                    b_portagelaw12_BtreeSwapsj7 (.bool false) k w
                  )
                ) (
                  b_portagelaw12_BtreeSwapsj7 (.bool false) k w
                )
              ) (
                len w t30 fun t86 w =>
                loop [(.int .i64 0)] w fun J1 s1 next1 w =>
                bin w .lss (at' s1 0) t86 fun t88 w =>
                Br t88 (
                  idx w 4 t30 (at' s1 0) fun t89 w =>
                  ldN w 4 t89 fun t90 w =>
                  new w 35 #[.int .i64 0, .int .i64 0, .int .i64 0, .int .i64 0] fun t9 w =>
                  st w 4 t9 t90 fun _ w =>
                  ldN w 4 t9 fun t93 w =>
                  call Tryz.prog w 15 [t38, t93] fun t94 w =>
                  tup w 0 t94 fun t95 w =>
                  tup w 1 t94 fun t96 w =>
                  un w .not t95 fun t98 w =>
                  Br t98 (
                    k (.bool false) w
                  ) (
                    Br t96 (
                      k (.bool false) w
                    ) (
                      bin w .add (at' s1 0) (.int .i64 1) fun t102 w =>
                      next1 [t102] w
                    )
                  )
                ) (
                  nmap w fun t103 w =>
                  len w t34 fun t105 w =>
                  loop [(.int .i64 0)] w fun J2 s2 next2 w =>
                  bin w .lss (at' s2 0) t105 fun t107 w =>
                  Br t107 (
                    idx w 1 t34 (at' s2 0) fun t109 w =>
                    ld w t109 fun t110 w =>
                    idx w 1 t36 (at' s2 0) fun t113 w =>
                    ld w t113 fun t114 w =>
                    bin w .lss t114 (.int .i64 1) fun t115 w =>
                    Br t115 (
                      call Tryz.prog w 10 [] fun t123 w =>
                      k t123 w
                    ) (
                      idx w 1 t36 (at' s2 0) fun t119 w =>
                      ld w t119 fun t120 w =>
                      bin w .gtr t120 (.int .i64 2305843009213693952) fun t121 w =>
                      Br t121 (
                        call Tryz.prog w 10 [] fun t123_1 w =>
                        k t123_1 w
                      ) (
                        idx w 1 t36 (at' s2 0) fun t128 w =>
                        ld w t128 fun t129 w =>
                        mput w t103 t110 t129 fun _ w =>
                        bin w .add (at' s2 0) (.int .i64 1) fun t130 w =>
                        next2 [t130] w
                      )
                    )
                  ) (
                    len w t34 fun t132 w =>
                    loop [(.slice none 0 0), (.int .i64 0)] w fun J3 s3 next3 w =>
                    bin w .lss (at' s3 1) t132 fun t134 w =>
                    Br t134 (
                      idx w 1 t34 (at' s3 1) fun t140 w =>
                      ld w t140 fun t141 w =>
                      lkp w (.int .i64 0) false t103 t141 fun t142 w =>
                      bldS w 3 1 1 [.int .i64 0] [(0, t142)] fun t143 w =>
                      app w 3 1 8 #[.int .i64 0] (at' s3 0) t143 fun t144 w =>
                      bin w .add (at' s3 1) (.int .i64 1) fun t145 w =>
                      next3 [t144, t145] w
                    ) (
                      nn w t38 fun t147 w =>
                      add w 0 t147 fun t148 w =>
                      ld w t148 fun t149 w =>
                      call Tryz.prog w 25 [t149] fun t150 w =>
                      new w 66 #[.slice none 0 0] fun t17 w =>
                      st w 1 t17 t150 fun _ w =>
                      ldN w 1 t17 fun t152 w =>
                      call Tryz.prog w 26 [t152, t32] fun t154 w =>
                      tup w 0 t154 fun t155 w =>
                      tup w 1 t154 fun t156 w =>
                      st w 1 t17 t155 fun _ w =>
                      drawS w fun S w =>
                      eq w true true .iface t156 .nilIface fun t158 w =>
                      Br t158 (
                        k (.bool false) w
                      ) (
                        nn w t38 fun t161 w =>
                        add w 0 t161 fun t162 w =>
                        held S w (fun w k => ld w t162 k) fun t163 w =>
                        held S w (fun w k => ldN w 1 t17 k) fun t164 w =>
                        call Tryz.prog w 27 [t163, t164] fun t165 w =>
                        eq w true true .iface t165 .nilIface fun t166 w =>
                        Br t166 (
                          k (.bool false) w
                        ) (
                          nn w t38 fun t169 w =>
                          add w 1 t169 fun t170 w =>
                          ld w t170 fun t171 w =>
                          call Tryz.prog w 12 [t171] fun t172 w =>
                          len w t172 fun t173 w =>
                          nmap w fun t174 w =>
                          nn w t38 fun t176 w =>
                          add w 2 t176 fun t177 w =>
                          ldN w 4 t177 fun t178 w =>
                          loop [(.int .i64 0)] w fun J4 s4 next4 w =>
                          bin w .lss (at' s4 0) (.int .i64 4) fun t180 w =>
                          Br t180 (
                            idxV w 4 1 none t178 (at' s4 0) fun t182 w =>
                            nn w t38 fun t185 w =>
                            add w 1 t185 fun t186 w =>
                            ld w t186 fun t187 w =>
                            call Tryz.prog w 28 [t187, t182, t32, t174, t103] fun t192 w =>
                            tup w 0 t192 fun t193 w =>
                            tup w 1 t192 fun t194 w =>
                            eq w true true .iface t194 .nilIface fun t196 w =>
                            Br t196 (
                              k (.bool false) w
                            ) (
                              drawS w fun S w =>
                              nn w t38 fun t204 w =>
                              add w 6 t204 fun t205 w =>
                              idxA w 4 1 t205 (at' s4 0) fun t206 w =>
                              nn w t38 fun t211 w =>
                              add w 2 t211 fun t212 w =>
                              nn w t38 fun t214 w =>
                              add w 6 t214 fun t215 w =>
                              held S w (fun w k => ld w t206 k) fun t207 w =>
                              call Tryz.prog w 29 [t207, t34, (at' s3 0)] fun t210 w =>
                              idxA w 4 1 t212 (at' s4 0) fun t213 w =>
                              st w 1 t213 t193 fun _ w =>
                              idxA w 4 1 t215 (at' s4 0) fun t216 w =>
                              st w 1 t216 t210 fun _ w =>
                              bin w .add (at' s4 0) (.int .i64 1) fun t217 w =>
                              next4 [t217] w
                            )
                          ) (
                            nn w t38 fun t219 w =>
                            add w 1 t219 fun t220 w =>
                            ld w t220 fun t221 w =>
                            call Tryz.prog w 12 [t221] fun t222 w =>
                            len w t222 fun t223 w =>
                            loop [(.int .i64 0)] w fun J5 s5 next5 w =>
                            bin w .lss (at' s5 0) t223 fun t225 w =>
                            Br t225 (
                              idx w 1 t222 (at' s5 0) fun t226 w =>
                              ld w t226 fun t227 w =>
                              call Tryz.prog w 30 [t227] fun t230 w =>
                              tup w 0 t230 fun t231 w =>
                              tup w 1 t230 fun t232 w =>
                              bin w .eql t231 t32 fun t235 w =>
                              Br t235 (
                                k (.bool false) w
                              ) (
                                bin w .add (at' s5 0) (.int .i64 1) fun t236 w =>
                                next5 [t236] w
                              )
                            ) (
                              call Tryz.prog w 16 [t38] fun t238 w =>
                              Br t238 (
                                nn w t38 fun t241 w =>
                                add w 1 t241 fun t242 w =>
                                ld w t242 fun t243 w =>
                                call Tryz.prog w 12 [t243] fun t244 w =>
                                len w t244 fun t245 w =>
                                bin w .eql t245 t173 fun t247 w =>
                                Br t247 (
                                  nn w t38 fun t251 w =>
                                  add w 0 t251 fun t252 w =>
                                  ld w t252 fun t253 w =>
                                  call Tryz.prog w 31 [t253, t32] fun t255 w =>
                                  len w t255 fun t256 w =>
                                  bin w .eql t256 (.int .i64 0) fun t257 w =>
                                  Br t257 (
                                    call Tryz.prog w 10 [] fun t260 w =>
                                    k t260 w
                                  ) (
                                    k (.bool false) w
                                  )
                                ) (
                                  k (.bool false) w
                                )
                              ) (
                                k (.bool false) w
                              )
                            )
                          )
                        )
                      )
                    )
                  )
                )
              )
            )
          )
        )
      )
    )
  )
theorem b_portagelaw12_BtreeSwaps_eq (t0 : Value) (k : K) (w : World) : b_portagelaw12_BtreeSwaps t0 k w = bodyW Tryz.prog [(6, [87]), (14, [106]), (22, [15, 133]), (33, [179]), (41, [224])] Tryz.f5 [t0] k w := by kernel_rfl
/-- portage/portagelaw12.BtreeSwaps -/
theorem b_portagelaw12_BtreeSwaps_walk {t0 : Value} {k : K} {w : World} (h : b_portagelaw12_BtreeSwaps t0 k w) : call Tryz.prog w 5 [t0] k :=
  calls_of_body Tryz.func5 (b_portagelaw12_BtreeSwaps_eq t0 k w ▸ h) (Nat.le_of_ble_eq_true rfl)
/-! ### portage/portagelaw12.awake -/
def b_portagelaw12_awake (k : K) (w : World) : Prop :=
  bldS w 3 1 1 [.int .i64 0] [(0, (.int .i64 10))] fun t6 w =>
  call Tryz.prog w 11 [t6] fun t7 w =>
  eq w false true .ptr t7 (.pointer none) fun t9 w =>
  Br t9 (
    k (.bool false) w
  ) (
    nn w t7 fun t12 w =>
    add w 1 t12 fun t13 w =>
    ld w t13 fun t14 w =>
    eq w false true .ptr t14 (.pointer none) fun t15 w =>
    Br t15 (
      k (.bool false) w
    ) (
      nn w t7 fun t19 w =>
      add w 1 t19 fun t20 w =>
      ld w t20 fun t21 w =>
      call Tryz.prog w 36 [t21, (.int .i64 0), (.int .i64 1), (.int .i64 5)] fun t22 w =>
      tup w 0 t22 fun t23 w =>
      tup w 1 t22 fun t24 w =>
      nn w t7 fun t27 w =>
      add w 1 t27 fun t28 w =>
      ld w t28 fun t29 w =>
      call Tryz.prog w 62 [t29, t23, (.int .i64 1)] fun t31 w =>
      tup w 0 t31 fun t32 w =>
      tup w 1 t31 fun t33 w =>
      eq w false true .iface t24 .nilIface fun t35 w =>
      Br t35 (
        bin w .eql t23 (.int .i64 2) fun t38 w =>
        Br t38 (
          Br t33 (
            bin w .eql t32 (.int .i64 5) fun t45 w =>
            Br t45 (
              nn w t7 fun t49 w =>
              add w 1 t49 fun t50 w =>
              ld w t50 fun t51 w =>
              call Tryz.prog w 14 [t51, (.int .i64 2)] fun t52 w =>
              bin w .eql t52 (.int .i64 1) fun t53 w =>
              k t53 w
            ) (
              k (.bool false) w
            )
          ) (
            k (.bool false) w
          )
        ) (
          k (.bool false) w
        )
      ) (
        k (.bool false) w
      )
    )
  )
theorem b_portagelaw12_awake_eq (k : K) (w : World) : b_portagelaw12_awake  k w = bodyW Tryz.prog [] Tryz.f10 [] k w := by kernel_rfl
/-- portage/portagelaw12.awake -/
theorem b_portagelaw12_awake_walk {k : K} {w : World} (h : b_portagelaw12_awake  k w) : call Tryz.prog w 10 [] k :=
  calls_of_body Tryz.func10 (b_portagelaw12_awake_eq  k w ▸ h) (Nat.le_of_ble_eq_true rfl)
/-! ### portage/portagelaw12.is -/
def b_portagelaw12_is (t0 t1 : Value) (k : K) (w : World) : Prop :=
  bin w .eql t1 (.int .i64 0) fun t6 w =>
  Br t6 (
    eq w false true .iface t0 .nilIface fun t8 w =>
    k t8 w
  ) (
    eq w true true .iface t0 .nilIface fun t10 w =>
    Br t10 (
      call Tryz.prog w 85 [t0, (.iface 149 t1)] fun t15 w =>
      k t15 w
    ) (
      k (.bool false) w
    )
  )
theorem b_portagelaw12_is_eq (t0 t1 : Value) (k : K) (w : World) : b_portagelaw12_is t0 t1 k w = bodyW Tryz.prog [] Tryz.f68 [t0, t1] k w := by kernel_rfl
/-- portage/portagelaw12.is -/
theorem b_portagelaw12_is_walk {t0 t1 : Value} {k : K} {w : World} (h : b_portagelaw12_is t0 t1 k w) : call Tryz.prog w 68 [t0, t1] k :=
  calls_of_body Tryz.func68 (b_portagelaw12_is_eq t0 t1 k w ▸ h) (Nat.le_of_ble_eq_true rfl)
/-! ### portage/portagelaw12.made -/
def b_portagelaw12_made (t0 : Value) (k : K) (w : World) : Prop :=
  call Tryz.prog w 40 [] fun t9 w =>
  eq w false true .ptr t9 (.pointer none) fun t11 w =>
  Br t11 (
    k (.pointer none) w
  ) (
    new w 66 #[.slice none 0 0] fun t4 w =>
    len w t0 fun t13 w =>
    loop [(.int .i64 0)] w fun J1 s1 next1 w =>
    bin w .lss (at' s1 0) t13 fun t15 w =>
    Br t15 (
      idx w 1 t0 (at' s1 0) fun t16 w =>
      ld w t16 fun t17 w =>
      call Tryz.prog w 41 [t9, t17] fun t20 w =>
      add w 0 t4 fun t21 w =>
      ld w t21 fun t22 w =>
      bld w #[(0, 1), (1, 1)] #[.int .i64 0, .int .i64 0] [(0, (.int .i64 1)), (1, t17)] fun t24 w =>
      bldS w 95 1 2 [.int .i64 0, .int .i64 0] [(0, t24)] fun t25 w =>
      app w 95 2 16 #[.int .i64 0, .int .i64 0] t22 t25 fun t26 w =>
      add w 0 t4 fun t27 w =>
      st w 1 t27 t26 fun _ w =>
      bin w .add (at' s1 0) (.int .i64 1) fun t28 w =>
      next1 [t28] w
    ) (
      ldN w 1 t4 fun t30 w =>
      call Tryz.prog w 33 [t30] fun t31 w =>
      tup w 0 t31 fun t32 w =>
      tup w 1 t31 fun t33 w =>
      eq w false true .ptr t32 (.pointer none) fun t35 w =>
      Br t35 (
        k (.pointer none) w
      ) (
        eq w true true .iface t33 .nilIface fun t38 w =>
        Br t38 (
          k (.pointer none) w
        ) (
          call Tryz.prog w 34 [t9, t32] fun t43 w =>
          bld w #[(0, 1), (1, 1), (2, 4), (6, 4)] #[.pointer none, .pointer none, .int .i64 0, .int .i64 0, .int .i64 0, .int .i64 0, .slice none 0 0, .slice none 0 0, .slice none 0 0, .slice none 0 0] [(0, t32), (1, t43)] fun t44 w =>
          box w 33 t44 fun t45 w =>
          k t45 w
        )
      )
    )
  )
theorem b_portagelaw12_made_eq (t0 : Value) (k : K) (w : World) : b_portagelaw12_made t0 k w = bodyW Tryz.prog [(6, [14])] Tryz.f11 [t0] k w := by kernel_rfl
/-- portage/portagelaw12.made -/
theorem b_portagelaw12_made_walk {t0 : Value} {k : K} {w : World} (h : b_portagelaw12_made t0 k w) : call Tryz.prog w 11 [t0] k :=
  calls_of_body Tryz.func11 (b_portagelaw12_made_eq t0 k w ▸ h) (Nat.le_of_ble_eq_true rfl)
/-! ### portage/portagelaw12.mod -/
def b_portagelaw12_mod (t0 : Value) (k : K) (w : World) : Prop :=
  bin w .rem t0 (.int .i64 4) fun t4 w =>
  bin w .add t4 (.int .i64 4) fun t5 w =>
  bin w .rem t5 (.int .i64 4) fun t6 w =>
  k t6 w
theorem b_portagelaw12_mod_eq (t0 : Value) (k : K) (w : World) : b_portagelaw12_mod t0 k w = bodyW Tryz.prog [] Tryz.f67 [t0] k w := by kernel_rfl
/-- portage/portagelaw12.mod -/
theorem b_portagelaw12_mod_walk {t0 : Value} {k : K} {w : World} (h : b_portagelaw12_mod t0 k w) : call Tryz.prog w 67 [t0] k :=
  calls_of_body Tryz.func67 (b_portagelaw12_mod_eq t0 k w ▸ h) (Nat.le_of_ble_eq_true rfl)
/-! ### portage/portagelaw12.pairs -/
def b_portagelaw12_pairs (t0 t1 : Value) (k : K) (w : World) : Prop :=
  len w t0 fun t7 w =>
  len w t1 fun t9 w =>
  bin w .neq t7 t9 fun t10 w =>
  Br t10 (
    k (.bool false) w
  ) (
    len w t0 fun t12 w =>
    loop [(.int .i64 0)] w fun J1 s1 next1 w =>
    bin w .lss (at' s1 0) t12 fun t14 w =>
    Br t14 (
      drawS w fun S w =>
      idx w 2 t0 (at' s1 0) fun t18 w =>
      add w 0 t18 fun t19 w =>
      idx w 2 t1 (at' s1 0) fun t23 w =>
      add w 0 t23 fun t24 w =>
      held S w (fun w k => ld w t19 k) fun t20 w =>
      held S w (fun w k => ld w t24 k) fun t25 w =>
      bin w .neq t20 t25 fun t26 w =>
      Br t26 (
        k (.bool false) w
      ) (
        idx w 2 t0 (at' s1 0) fun t30 w =>
        add w 1 t30 fun t31 w =>
        idx w 2 t1 (at' s1 0) fun t35 w =>
        add w 1 t35 fun t36 w =>
        held S w (fun w k => ld w t31 k) fun t32 w =>
        held S w (fun w k => ld w t36 k) fun t37 w =>
        bin w .neq t32 t37 fun t38 w =>
        Br t38 (
          k (.bool false) w
        ) (
          bin w .add (at' s1 0) (.int .i64 1) fun t40 w =>
          next1 [t40] w
        )
      )
    ) (
      k (.bool true) w
    )
  )
theorem b_portagelaw12_pairs_eq (t0 t1 : Value) (k : K) (w : World) : b_portagelaw12_pairs t0 t1 k w = bodyW Tryz.prog [(4, [13])] Tryz.f74 [t0, t1] k w := by kernel_rfl
/-- portage/portagelaw12.pairs -/
theorem b_portagelaw12_pairs_walk {t0 t1 : Value} {k : K} {w : World} (h : b_portagelaw12_pairs t0 t1 k w) : call Tryz.prog w 74 [t0, t1] k :=
  calls_of_body Tryz.func74 (b_portagelaw12_pairs_eq t0 t1 k w ▸ h) (Nat.le_of_ble_eq_true rfl)
/-! ### (*portage/portagelaw12.trees).holds -/
def b_portagelaw12_trees_holds (t0 : Value) (k : K) (w : World) : Prop :=
  mks w 4 1 1 #[.bool false] (.int .i64 32768) (.int .i64 32768) fun t13 w =>
  nn w t0 fun t15 w =>
  add w 2 t15 fun t16 w =>
  ldN w 4 t16 fun t17 w =>
  loop [(.int .i64 0), (.int .i64 0)] w fun J1 s1 next1 w =>
  bin w .lss (at' s1 1) (.int .i64 4) fun t19 w =>
  Br t19 (
    idxV w 4 1 none t17 (at' s1 1) fun t21 w =>
    drawS w fun S w =>
    nn w t0 fun t23 w =>
    add w 1 t23 fun t24 w =>
    nn w t0 fun t30 w =>
    add w 6 t30 fun t31 w =>
    idxA w 4 1 t31 (at' s1 1) fun t32 w =>
    held S w (fun w k => ld w t24 k) fun t25 w =>
    held S w (fun w k => ld w t32 k) fun t33 w =>
    call Tryz.prog w 75 [t25, t21, (.int .i64 0), (.int .i64 (-1))] fun t27 w =>
    S w ∧
    call Tryz.prog w 74 [t27, t33] fun t34 w =>
    S w ∧
    un w .not t34 fun t35 w =>
    Br t35 (
      S w ∧
      S w ∧
      k (.bool false) w
    ) (
      nn w t0 fun t38 w =>
      add w 1 t38 fun t39 w =>
      held S w (fun w k => ld w t39 k) fun t40 w =>
      call Tryz.prog w 76 [t40, t21] fun t42 w =>
      S w ∧
      eq w true true .iface t42 .nilIface fun t43 w =>
      Br t43 (
        S w ∧
        k (.bool false) w
      ) (
        nn w t0 fun t47 w =>
        add w 1 t47 fun t48 w =>
        nn w t0 fun t54 w =>
        add w 6 t54 fun t55 w =>
        idxA w 4 1 t55 (at' s1 1) fun t56 w =>
        held S w (fun w k => ld w t48 k) fun t49 w =>
        held S w (fun w k => ld w t56 k) fun t57 w =>
        len w t57 fun t58 w =>
        call Tryz.prog w 77 [t49, t21] fun t51 w =>
        S w ∧
        bin w .neq t51 t58 fun t59 w =>
        Br t59 (
          k (.bool false) w
        ) (
          bin w .eql t21 (.int .i64 0) fun t63 w =>
          nn w t0 fun t66 w =>
          add w 6 t66 fun t67 w =>
          idxA w 4 1 t67 (at' s1 1) fun t68 w =>
          held S w (fun w k => ld w t68 k) fun t69 w =>
          len w t69 fun t70 w =>
          bin w .eql t70 (.int .i64 0) fun t71 w =>
          eq w true false .bool t63 t71 fun t72 w =>
          Br t72 (
            k (.bool false) w
          ) (
            new w 139 #[.int .i64 0, .int .i64 0, .int .i64 0, .int .i64 0, .int .i64 0, .int .i64 0, .int .i64 0, .int .i64 0, .int .i64 0, .int .i64 0, .int .i64 0, .int .i64 0, .int .i64 0, .int .i64 0, .int .i64 0, .int .i64 0, .int .i64 0, .int .i64 0, .int .i64 0, .int .i64 0, .int .i64 0] fun t8 w =>
            nn w t0 fun t75 w =>
            add w 1 t75 fun t76 w =>
            ld w t76 fun t77 w =>
            call Tryz.prog w 78 [t77, t21] fun t79 w =>
            len w t79 fun t80 w =>
            loop [(at' s1 0), (.int .i64 0), (.int .i64 0)] w fun J2 s2 next2 w =>
            bin w .lss (at' s2 2) t80 fun t82 w =>
            Br t82 (
              idx w 1 t79 (at' s2 2) fun t83 w =>
              ld w t83 fun t84 w =>
              nn w t0 fun t87 w =>
              add w 1 t87 fun t88 w =>
              ld w t88 fun t89 w =>
              call Tryz.prog w 79 [t89, t84] fun t91 w =>
              tup w 0 t91 fun t92 w =>
              tup w 1 t91 fun t93 w =>
              new w 119 #[.int .i64 0, .slice none 0 0, .slice none 0 0] fun t11 w =>
              st w 3 t11 t92 fun _ w =>
              eq w true true .iface t93 .nilIface fun t95 w =>
              Br t95 (
                k (.bool false) w
              ) (
                bin w .leq t84 (at' s2 1) fun t99 w =>
                Br t99 (
                  k (.bool false) w
                ) (
                  add w 0 t11 fun t102 w =>
                  ld w t102 fun t103 w =>
                  bin w .lss t103 (.int .i64 0) fun t104 w =>
                  Br t104 (
                    k (.bool false) w
                  ) (
                    add w 0 t11 fun t107 w =>
                    ld w t107 fun t108 w =>
                    bin w .gtr t108 (.int .i64 20) fun t109 w =>
                    Br t109 (
                      k (.bool false) w
                    ) (
                      add w 0 t11 fun t112 w =>
                      ld w t112 fun t113 w =>
                      idxA w 21 1 t8 t113 fun t114 w =>
                      ld w t114 fun t115 w =>
                      bin w .add t115 (.int .i64 1) fun t116 w =>
                      idxA w 21 1 t8 t113 fun t117 w =>
                      st w 1 t117 t116 fun _ w =>
                      drawS w fun S w =>
                      add w 0 t11 fun t118 w =>
                      nn w t0 fun t124 w =>
                      add w 6 t124 fun t125 w =>
                      idxA w 4 1 t125 (at' s1 1) fun t126 w =>
                      held S w (fun w k => ld w t118 k) fun t119 w =>
                      idxA w 21 1 t8 t119 fun t120 w =>
                      held S w (fun w k => ld w t120 k) fun t121 w =>
                      held S w (fun w k => ld w t126 k) fun t127 w =>
                      len w t127 fun t128 w =>
                      bin w .gtr t121 t128 fun t129 w =>
                      Br t129 (
                        k (.bool false) w
                      ) (
                        idx w 1 t13 t84 fun t132 w =>
                        ld w t132 fun t133 w =>
                        un w .not t133 fun t134 w =>
                        Br t134 (
                          bin w .add (at' s2 0) (.int .i64 1) fun t136 w =>
                          idx w 1 t13 t84 fun t139 w =>
                          st w 1 t139 (.bool true) fun _ w =>
                          bin w .add (at' s2 2) (.int .i64 1) fun t140 w =>
                          next2 [t136, t84, t140] w
                        ) (
                          idx w 1 t13 t84 fun t139_1 w =>
                          st w 1 t139_1 (.bool true) fun _ w =>
                          bin w .add (at' s2 2) (.int .i64 1) fun t140_1 w =>
                          next2 [(at' s2 0), t84, t140_1] w
                        )
                      )
                    )
                  )
                )
              )
            ) (
              bin w .add (at' s1 1) (.int .i64 1) fun t141 w =>
              next1 [(at' s2 0), t141] w
            )
          )
        )
      )
    )
  ) (
    nn w t0 fun t144 w =>
    add w 1 t144 fun t145 w =>
    ld w t145 fun t146 w =>
    call Tryz.prog w 12 [t146] fun t147 w =>
    len w t147 fun t148 w =>
    bin w .eql (at' s1 0) t148 fun t149 w =>
    k t149 w
  )
theorem b_portagelaw12_trees_holds_eq (t0 : Value) (k : K) (w : World) : b_portagelaw12_trees_holds t0 k w = bodyW Tryz.prog [(1004, [4, 18]), (11, [4, 7, 81])] Tryz.f16 [t0] k w := by kernel_rfl
/-- (*portage/portagelaw12.trees).holds -/
theorem b_portagelaw12_trees_holds_walk {t0 : Value} {k : K} {w : World} (h : b_portagelaw12_trees_holds t0 k w) : call Tryz.prog w 16 [t0] k :=
  calls_of_body Tryz.func16 (b_portagelaw12_trees_holds_eq t0 k w ▸ h) (Nat.le_of_ble_eq_true rfl)
/-! ### (*portage/portagelaw12.trees).step -/
def b_portagelaw12_trees_stepj1 (t4 t5 : Value) (k : K) (w : World) : Prop :=
  k (.tuple #[t4, t5]) w
def b_portagelaw12_trees_stepj2 (t4_1 t5_1 : Value) (k : K) (w : World) : Prop :=
  k (.tuple #[t4_1, t5_1]) w
def b_portagelaw12_trees_stepj3 (t4_2 t5_2 : Value) (k : K) (w : World) : Prop :=
  k (.tuple #[t4_2, t5_2]) w
def b_portagelaw12_trees_stepj4 (t4_3 t5_3 : Value) (k : K) (w : World) : Prop :=
  k (.tuple #[t4_3, t5_3]) w
def b_portagelaw12_trees_stepj5 (t4_4 t5_4 : Value) (k : K) (w : World) : Prop :=
  k (.tuple #[t4_4, t5_4]) w
def b_portagelaw12_trees_stepj6 (t4_5 t5_5 : Value) (k : K) (w : World) : Prop :=
  k (.tuple #[t4_5, t5_5]) w
def b_portagelaw12_trees_stepj7 (t4_6 t5_6 : Value) (k : K) (w : World) : Prop :=
  k (.tuple #[t4_6, t5_6]) w
def b_portagelaw12_trees_stepj9 (t0_2 t6_1 t7_1 t15 t16 : Value) (k : K) (w : World) : Prop :=
  bin w .neq t15 (.int .i64 0) fun t180 w =>
  Br t180 (
    nn w t0_2 fun t183 w =>
    add w 1 t183 fun t184 w =>
    ld w t184 fun t185 w =>
    call Tryz.prog w 72 [t185, t15] fun t187 w =>
    eq w true true .iface t187 .nilIface fun t188 w =>
    Br t188 (
      k (.tuple #[(.bool false), (.bool false)]) w
    ) (
      bin w .neq t7_1 (.int .i64 0) fun t192 w =>
      Br t192 (
        nn w t0_2 fun t195 w =>
        add w 1 t195 fun t196 w =>
        ld w t196 fun t197 w =>
        call Tryz.prog w 73 [t197, t7_1] fun t199 w =>
        eq w true true .iface t199 .nilIface fun t200 w =>
        Br t200 (
          k (.tuple #[(.bool false), (.bool false)]) w
        ) (
          draw w fun w =>
          nn w t0_2 fun t209 w =>
          add w 2 t209 fun t210 w =>
          idxA w 4 1 t210 t6_1 fun t211 w =>
          nn w t0_2 fun t212 w =>
          add w 6 t212 fun t213 w =>
          st w 1 t211 t15 fun _ w =>
          idxA w 4 1 t213 t6_1 fun t214 w =>
          st w 1 t214 t16 fun _ w =>
          k (.tuple #[(.bool true), (.bool false)]) w
        )
      ) (
        draw w fun w =>
        nn w t0_2 fun t209_1 w =>
        add w 2 t209_1 fun t210_1 w =>
        idxA w 4 1 t210_1 t6_1 fun t211_1 w =>
        nn w t0_2 fun t212_1 w =>
        add w 6 t212_1 fun t213_1 w =>
        st w 1 t211_1 t15 fun _ w =>
        idxA w 4 1 t213_1 t6_1 fun t214_1 w =>
        st w 1 t214_1 t16 fun _ w =>
        k (.tuple #[(.bool true), (.bool false)]) w
      )
    )
  ) (
    bin w .neq t7_1 (.int .i64 0) fun t192_1 w =>
    Br t192_1 (
      nn w t0_2 fun t195_1 w =>
      add w 1 t195_1 fun t196_1 w =>
      ld w t196_1 fun t197_1 w =>
      call Tryz.prog w 73 [t197_1, t7_1] fun t199_1 w =>
      eq w true true .iface t199_1 .nilIface fun t200_1 w =>
      Br t200_1 (
        k (.tuple #[(.bool false), (.bool false)]) w
      ) (
        draw w fun w =>
        nn w t0_2 fun t209_2 w =>
        add w 2 t209_2 fun t210_2 w =>
        idxA w 4 1 t210_2 t6_1 fun t211_2 w =>
        nn w t0_2 fun t212_2 w =>
        add w 6 t212_2 fun t213_2 w =>
        st w 1 t211_2 t15 fun _ w =>
        idxA w 4 1 t213_2 t6_1 fun t214_2 w =>
        st w 1 t214_2 t16 fun _ w =>
        k (.tuple #[(.bool true), (.bool false)]) w
      )
    ) (
      draw w fun w =>
      nn w t0_2 fun t209_3 w =>
      add w 2 t209_3 fun t210_3 w =>
      idxA w 4 1 t210_3 t6_1 fun t211_3 w =>
      nn w t0_2 fun t212_3 w =>
      add w 6 t212_3 fun t213_3 w =>
      st w 1 t211_3 t15 fun _ w =>
      idxA w 4 1 t213_3 t6_1 fun t214_3 w =>
      st w 1 t214_3 t16 fun _ w =>
      k (.tuple #[(.bool true), (.bool false)]) w
    )
  )
def b_portagelaw12_trees_stepj8 (t0_1 t3_1 t6 t7 t158 : Value) (k : K) (w : World) : Prop :=
  Br t158 (
    add w 2 t3_1 fun t161 w =>
    ld w t161 fun t162 w =>
    call Tryz.prog w 67 [t162] fun t163 w =>
    add w 0 t3_1 fun t164 w =>
    ld w t164 fun t165 w =>
    bin w .eql t165 (.int .i64 3) fun t166 w =>
    Br t166 (
      drawS w fun S w =>
      nn w t0_1 fun t169 w =>
      add w 2 t169 fun t170 w =>
      idxA w 4 1 t170 t163 fun t171 w =>
      nn w t0_1 fun t175 w =>
      add w 6 t175 fun t176 w =>
      idxA w 4 1 t176 t163 fun t177 w =>
      held S w (fun w k => ld w t171 k) fun t172 w =>
      held S w (fun w k => ld w t177 k) fun t178 w =>
      b_portagelaw12_trees_stepj9 t0_1 t6 t7 t172 t178 k w
    ) (
      b_portagelaw12_trees_stepj9 t0_1 t6 t7 (.int .i64 0) (.slice none 0 0) k w
    )
  ) (
    k (.tuple #[(.bool true), (.bool false)]) w
  )
def b_portagelaw12_trees_step (t0 t1 : Value) (k : K) (w : World) : Prop :=
  box w 35 t1 fun t3 w =>
  add w 1 t3 fun t17 w =>
  ld w t17 fun t18 w =>
  call Tryz.prog w 67 [t18] fun t19 w =>
  nn w t0 fun t22 w =>
  add w 2 t22 fun t23 w =>
  idxA w 4 1 t23 t19 fun t24 w =>
  ld w t24 fun t25 w =>
  add w 0 t3 fun t26 w =>
  ld w t26 fun t27 w =>
  bin w .eql t27 (.int .i64 1) fun t29 w =>
  Br t29 (
    drawS w fun S w =>
    nn w t0 fun t32 w =>
    add w 1 t32 fun t33 w =>
    add w 2 t3 fun t36 w =>
    add w 3 t3 fun t38 w =>
    held S w (fun w k => ld w t33 k) fun t34 w =>
    held S w (fun w k => ld w t36 k) fun t37 w =>
    held S w (fun w k => ld w t38 k) fun t39 w =>
    call Tryz.prog w 36 [t34, t25, t37, t39] fun t40 w =>
    tup w 0 t40 fun t41 w =>
    tup w 1 t40 fun t42 w =>
    add w 2 t3 fun t43 w =>
    ld w t43 fun t44 w =>
    bin w .lss t44 (.int .i64 0) fun t45 w =>
    Br t45 (
      call Tryz.prog w 68 [t42, (.int .i64 80)] fun t62 w =>
      Br t62 (
        bin w .eql t41 (.int .i64 0) fun t65 w =>
        b_portagelaw12_trees_stepj1 t65 (.bool false) k w
      ) (
        b_portagelaw12_trees_stepj1 (.bool false) (.bool false) k w
      )
    ) (
      add w 2 t3 fun t47 w =>
      ld w t47 fun t48 w =>
      bin w .gtr t48 (.int .i64 1099511627776) fun t49 w =>
      Br t49 (
        call Tryz.prog w 68 [t42, (.int .i64 80)] fun t62_1 w =>
        Br t62_1 (
          bin w .eql t41 (.int .i64 0) fun t65_1 w =>
          b_portagelaw12_trees_stepj2 t65_1 (.bool false) k w
        ) (
          b_portagelaw12_trees_stepj2 (.bool false) (.bool false) k w
        )
      ) (
        add w 3 t3 fun t52 w =>
        ld w t52 fun t53 w =>
        bin w .lss t53 (.int .i64 1) fun t54 w =>
        Br t54 (
          call Tryz.prog w 68 [t42, (.int .i64 80)] fun t62_2 w =>
          Br t62_2 (
            bin w .eql t41 (.int .i64 0) fun t65_2 w =>
            b_portagelaw12_trees_stepj3 t65_2 (.bool false) k w
          ) (
            b_portagelaw12_trees_stepj3 (.bool false) (.bool false) k w
          )
        ) (
          add w 3 t3 fun t57 w =>
          ld w t57 fun t58 w =>
          bin w .gtr t58 (.int .i64 2305843009213693952) fun t59 w =>
          Br t59 (
            call Tryz.prog w 68 [t42, (.int .i64 80)] fun t62_3 w =>
            Br t62_3 (
              bin w .eql t41 (.int .i64 0) fun t65_3 w =>
              b_portagelaw12_trees_stepj4 t65_3 (.bool false) k w
            ) (
              b_portagelaw12_trees_stepj4 (.bool false) (.bool false) k w
            )
          ) (
            eq w true true .iface t42 .nilIface fun t68 w =>
            Br t68 (
              call Tryz.prog w 68 [t42, (.int .i64 50)] fun t70 w =>
              Br t70 (
                bin w .eql t41 (.int .i64 0) fun t73 w =>
                b_portagelaw12_trees_stepj5 t73 (.bool true) k w
              ) (
                b_portagelaw12_trees_stepj5 (.bool false) (.bool true) k w
              )
            ) (
              drawS w fun S w =>
              nn w t0 fun t82 w =>
              add w 6 t82 fun t83 w =>
              idxA w 4 1 t83 t19 fun t84 w =>
              add w 2 t3 fun t86 w =>
              add w 3 t3 fun t88 w =>
              nn w t0 fun t91 w =>
              add w 2 t91 fun t92 w =>
              nn w t0 fun t94 w =>
              add w 6 t94 fun t95 w =>
              held S w (fun w k => ld w t84 k) fun t85 w =>
              held S w (fun w k => ld w t86 k) fun t87 w =>
              held S w (fun w k => ld w t88 k) fun t89 w =>
              call Tryz.prog w 37 [t85, t87, t89] fun t90 w =>
              idxA w 4 1 t92 t19 fun t93 w =>
              st w 1 t93 t41 fun _ w =>
              idxA w 4 1 t95 t19 fun t96 w =>
              st w 1 t96 t90 fun _ w =>
              k (.tuple #[(.bool true), (.bool false)]) w
            )
          )
        )
      )
    )
  ) (
    bin w .eql t27 (.int .i64 2) fun t98 w =>
    Br t98 (
      drawS w fun S w =>
      nn w t0 fun t101 w =>
      add w 1 t101 fun t102 w =>
      add w 2 t3 fun t105 w =>
      held S w (fun w k => ld w t102 k) fun t103 w =>
      held S w (fun w k => ld w t105 k) fun t106 w =>
      call Tryz.prog w 69 [t103, t25, t106] fun t107 w =>
      tup w 0 t107 fun t108 w =>
      tup w 1 t107 fun t109 w =>
      drawS w fun S w =>
      nn w t0 fun t113 w =>
      add w 6 t113 fun t114 w =>
      idxA w 4 1 t114 t19 fun t115 w =>
      add w 2 t3 fun t117 w =>
      held S w (fun w k => ld w t115 k) fun t116 w =>
      held S w (fun w k => ld w t117 k) fun t118 w =>
      call Tryz.prog w 70 [t116, t118] fun t119 w =>
      tup w 0 t119 fun t120 w =>
      tup w 1 t119 fun t121 w =>
      un w .not t121 fun t123 w =>
      Br t123 (
        call Tryz.prog w 68 [t109, (.int .i64 81)] fun t125 w =>
        Br t125 (
          bin w .eql t108 (.int .i64 0) fun t128 w =>
          b_portagelaw12_trees_stepj6 t128 (.bool false) k w
        ) (
          b_portagelaw12_trees_stepj6 (.bool false) (.bool false) k w
        )
      ) (
        eq w true true .iface t109 .nilIface fun t131 w =>
        Br t131 (
          call Tryz.prog w 68 [t109, (.int .i64 50)] fun t133 w =>
          Br t133 (
            bin w .eql t108 (.int .i64 0) fun t136 w =>
            b_portagelaw12_trees_stepj7 t136 (.bool true) k w
          ) (
            b_portagelaw12_trees_stepj7 (.bool false) (.bool true) k w
          )
        ) (
          drawS w fun S w =>
          nn w t0 fun t145 w =>
          add w 6 t145 fun t146 w =>
          idxA w 4 1 t146 t19 fun t147 w =>
          add w 2 t3 fun t149 w =>
          nn w t0 fun t152 w =>
          add w 2 t152 fun t153 w =>
          nn w t0 fun t155 w =>
          add w 6 t155 fun t156 w =>
          held S w (fun w k => ld w t147 k) fun t148 w =>
          held S w (fun w k => ld w t149 k) fun t150 w =>
          call Tryz.prog w 71 [t148, t150] fun t151 w =>
          idxA w 4 1 t153 t19 fun t154 w =>
          st w 1 t154 t108 fun _ w =>
          idxA w 4 1 t156 t19 fun t157 w =>
          st w 1 t157 t151 fun _ w =>
          k (.tuple #[(.bool true), (.bool false)]) w
        )
      )
    ) (
      bin w .eql t27 (.int .i64 3) fun t159 w =>
      Br t159 (
        b_portagelaw12_trees_stepj8 t0 t3 t19 t25 t159 k w
      ) (
        bin w .eql t27 (.int .i64 4) fun t160 w =>
        b_portagelaw12_trees_stepj8 t0 t3 t19 t25 t160 k w
      )
    )
  )
theorem b_portagelaw12_trees_step_eq (t0 t1 : Value) (k : K) (w : World) : b_portagelaw12_trees_step t0 t1 k w = bodyW Tryz.prog [] Tryz.f15 [t0, t1] k w := by kernel_rfl
/-- (*portage/portagelaw12.trees).step -/
theorem b_portagelaw12_trees_step_walk {t0 t1 : Value} {k : K} {w : World} (h : b_portagelaw12_trees_step t0 t1 k w) : call Tryz.prog w 15 [t0, t1] k :=
  calls_of_body Tryz.func15 (b_portagelaw12_trees_step_eq t0 t1 k w ▸ h) (Nat.le_of_ble_eq_true rfl)
/-! ### portage/portageref12.Find -/
def b_portageref12_Find (t0 t1 : Value) (k : K) (w : World) : Prop :=
  loop [(.int .i64 0)] w fun J1 s1 next1 w =>
  len w t0 fun t9 w =>
  bin w .lss (at' s1 0) t9 fun t10 w =>
  Br t10 (
    idx w 2 t0 (at' s1 0) fun t15 w =>
    add w 0 t15 fun t16 w =>
    ld w t16 fun t17 w =>
    bin w .eql t17 t1 fun t19 w =>
    Br t19 (
      idx w 2 t0 (at' s1 0) fun t22 w =>
      add w 1 t22 fun t23 w =>
      ld w t23 fun t24 w =>
      k (.tuple #[t24, (.bool true)]) w
    ) (
      bin w .add (at' s1 0) (.int .i64 1) fun t12 w =>
      next1 [t12] w
    )
  ) (
    k (.tuple #[(.int .i64 0), (.bool false)]) w
  )
theorem b_portageref12_Find_eq (t0 t1 : Value) (k : K) (w : World) : b_portageref12_Find t0 t1 k w = bodyW Tryz.prog [(2, [6])] Tryz.f70 [t0, t1] k w := by kernel_rfl
/-- portage/portageref12.Find -/
theorem b_portageref12_Find_walk {t0 t1 : Value} {k : K} {w : World} (h : b_portageref12_Find t0 t1 k w) : call Tryz.prog w 70 [t0, t1] k :=
  calls_of_body Tryz.func70 (b_portageref12_Find_eq t0 t1 k w ▸ h) (Nat.le_of_ble_eq_true rfl)
/-! ### portage/portageref12.Set -/
def b_portageref12_Setj1 (t0_1 t1_1 t2_1 t7 t8 t9 : Value) (next1 : List Value → World → Prop) (k : K) (w : World) : Prop :=
  idx w 2 t0_1 t9 fun t35 w =>
  add w 0 t35 fun t36 w =>
  ld w t36 fun t37 w =>
  bin w .neq t37 t1_1 fun t39 w =>
  Br t39 (
    idx w 2 t0_1 t9 fun t43 w =>
    ldN w 2 t43 fun t44 w =>
    bldS w 86 1 2 [.int .i64 0, .int .i64 0] [(0, t44)] fun t45 w =>
    app w 86 2 16 #[.int .i64 0, .int .i64 0] t7 t45 fun t46 w =>
    bin w .add t9 (.int .i64 1) fun t15 w =>
    next1 [t46, t8, t15] w
  ) (
    bin w .add t9 (.int .i64 1) fun t15_1 w =>
    next1 [t7, t8, t15_1] w
  )
def b_portageref12_Set (t0 t1 t2 : Value) (k : K) (w : World) : Prop :=
  loop [(.slice none 0 0), (.bool false), (.int .i64 0)] w fun J1 s1 next1 w =>
  len w t0 fun t12 w =>
  bin w .lss (at' s1 2) t12 fun t13 w =>
  Br t13 (
    un w .not (at' s1 1) fun t17 w =>
    Br t17 (
      idx w 2 t0 (at' s1 2) fun t21 w =>
      add w 0 t21 fun t22 w =>
      ld w t22 fun t23 w =>
      bin w .geq t23 t1 fun t25 w =>
      Br t25 (
        bld w #[(0, 1), (1, 1)] #[.int .i64 0, .int .i64 0] [(0, t1), (1, t2)] fun t30 w =>
        bldS w 86 1 2 [.int .i64 0, .int .i64 0] [(0, t30)] fun t31 w =>
        app w 86 2 16 #[.int .i64 0, .int .i64 0] (at' s1 0) t31 fun t32 w =>
        b_portageref12_Setj1 t0 t1 t2 t32 (.bool true) (at' s1 2) next1 k w
      ) (
        b_portageref12_Setj1 t0 t1 t2 (at' s1 0) (at' s1 1) (at' s1 2) next1 k w
      )
    ) (
      b_portageref12_Setj1 t0 t1 t2 (at' s1 0) (at' s1 1) (at' s1 2) next1 k w
    )
  ) (
    un w .not (at' s1 1) fun t48 w =>
    Br t48 (
      bld w #[(0, 1), (1, 1)] #[.int .i64 0, .int .i64 0] [(0, t1), (1, t2)] fun t52 w =>
      bldS w 86 1 2 [.int .i64 0, .int .i64 0] [(0, t52)] fun t53 w =>
      app w 86 2 16 #[.int .i64 0, .int .i64 0] (at' s1 0) t53 fun t54 w =>
      k t54 w
    ) (
      k (at' s1 0) w
    )
  )
theorem b_portageref12_Set_eq (t0 t1 t2 : Value) (k : K) (w : World) : b_portageref12_Set t0 t1 t2 k w = bodyW Tryz.prog [(4, [7, 8, 9])] Tryz.f37 [t0, t1, t2] k w := by kernel_rfl
/-- portage/portageref12.Set -/
theorem b_portageref12_Set_walk {t0 t1 t2 : Value} {k : K} {w : World} (h : b_portageref12_Set t0 t1 t2 k w) : call Tryz.prog w 37 [t0, t1, t2] k :=
  calls_of_body Tryz.func37 (b_portageref12_Set_eq t0 t1 t2 k w ▸ h) (Nat.le_of_ble_eq_true rfl)
/-! ### portage/portageref12.Swapped -/
def b_portageref12_Swapped (t0 t1 t2 : Value) (k : K) (w : World) : Prop :=
  loop [(.slice none 0 0), (.int .i64 0)] w fun J1 s1 next1 w =>
  len w t0 fun t13 w =>
  bin w .lss (at' s1 1) t13 fun t14 w =>
  Br t14 (
    idx w 2 t0 (at' s1 1) fun t19 w =>
    add w 1 t19 fun t20 w =>
    ld w t20 fun t21 w =>
    loop [t21, (.int .i64 0)] w fun J2 s2 next2 w =>
    len w t1 fun t24 w =>
    bin w .lss (at' s2 1) t24 fun t25 w =>
    Br t25 (
      drawS w fun S w =>
      idx w 1 t1 (at' s2 1) fun t30 w =>
      idx w 2 t0 (at' s1 1) fun t34 w =>
      add w 1 t34 fun t35 w =>
      held S w (fun w k => ld w t30 k) fun t31 w =>
      held S w (fun w k => ld w t35 k) fun t36 w =>
      bin w .eql t31 t36 fun t37 w =>
      Br t37 (
        idx w 1 t2 (at' s2 1) fun t40 w =>
        ld w t40 fun t41 w =>
        bin w .add (at' s2 1) (.int .i64 1) fun t27 w =>
        next2 [t41, t27] w
      ) (
        bin w .add (at' s2 1) (.int .i64 1) fun t27_1 w =>
        next2 [(at' s2 0), t27_1] w
      )
    ) (
      idx w 2 t0 (at' s1 1) fun t45 w =>
      add w 0 t45 fun t46 w =>
      ld w t46 fun t47 w =>
      bld w #[(0, 1), (1, 1)] #[.int .i64 0, .int .i64 0] [(0, t47), (1, (at' s2 0))] fun t49 w =>
      bldS w 86 1 2 [.int .i64 0, .int .i64 0] [(0, t49)] fun t50 w =>
      app w 86 2 16 #[.int .i64 0, .int .i64 0] (at' s1 0) t50 fun t51 w =>
      bin w .add (at' s1 1) (.int .i64 1) fun t16 w =>
      next1 [t51, t16] w
    )
  ) (
    k (at' s1 0) w
  )
theorem b_portageref12_Swapped_eq (t0 t1 t2 : Value) (k : K) (w : World) : b_portageref12_Swapped t0 t1 t2 k w = bodyW Tryz.prog [(1003, [7, 8]), (7, [9, 10])] Tryz.f29 [t0, t1, t2] k w := by kernel_rfl
/-- portage/portageref12.Swapped -/
theorem b_portageref12_Swapped_walk {t0 t1 t2 : Value} {k : K} {w : World} (h : b_portageref12_Swapped t0 t1 t2 k w) : call Tryz.prog w 29 [t0, t1, t2] k :=
  calls_of_body Tryz.func29 (b_portageref12_Swapped_eq t0 t1 t2 k w ▸ h) (Nat.le_of_ble_eq_true rfl)
/-! ### portage/portageref12.Without -/
def b_portageref12_Without (t0 t1 : Value) (k : K) (w : World) : Prop :=
  loop [(.slice none 0 0), (.int .i64 0)] w fun J1 s1 next1 w =>
  len w t0 fun t9 w =>
  bin w .lss (at' s1 1) t9 fun t10 w =>
  Br t10 (
    idx w 2 t0 (at' s1 1) fun t15 w =>
    add w 0 t15 fun t16 w =>
    ld w t16 fun t17 w =>
    bin w .neq t17 t1 fun t19 w =>
    Br t19 (
      idx w 2 t0 (at' s1 1) fun t23 w =>
      ldN w 2 t23 fun t24 w =>
      bldS w 86 1 2 [.int .i64 0, .int .i64 0] [(0, t24)] fun t25 w =>
      app w 86 2 16 #[.int .i64 0, .int .i64 0] (at' s1 0) t25 fun t26 w =>
      bin w .add (at' s1 1) (.int .i64 1) fun t12 w =>
      next1 [t26, t12] w
    ) (
      bin w .add (at' s1 1) (.int .i64 1) fun t12_1 w =>
      next1 [(at' s1 0), t12_1] w
    )
  ) (
    k (at' s1 0) w
  )
theorem b_portageref12_Without_eq (t0 t1 : Value) (k : K) (w : World) : b_portageref12_Without t0 t1 k w = bodyW Tryz.prog [(3, [5, 6])] Tryz.f71 [t0, t1] k w := by kernel_rfl
/-- portage/portageref12.Without -/
theorem b_portageref12_Without_walk {t0 t1 : Value} {k : K} {w : World} (h : b_portageref12_Without t0 t1 k w) : call Tryz.prog w 71 [t0, t1] k :=
  calls_of_body Tryz.func71 (b_portageref12_Without_eq t0 t1 k w ▸ h) (Nat.le_of_ble_eq_true rfl)
end Go.Proofs.YtemenmmekddjaaaGreatDoor
