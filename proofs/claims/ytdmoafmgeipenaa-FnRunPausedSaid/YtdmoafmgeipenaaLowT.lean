/- Lowered code of Go functions, printed by a program of this session (lower.py), and that it is the loaded code: checked by the kernel. -/
import Derived.Test.YtdmoafmgeipenaaProg
import Derived.Test.YtdmoafmgeipenaaLow
import Derived.KernelRfl
namespace Go.Proofs.Ytdmoafmgeipenaa
open Go.Abs
set_option maxRecDepth 100000


-- loop.example/deadlinescheduler/spec.DrawRunPaused
-- region 4: a plan of 51 places
def p0_spec_DrawRunPaused : Plan := (.one 17 ⟨some 36, none, .call (.k (.fn n_spec_l20Rd_pick [] [])) [.t 35, .k (.i .i64 6)]⟩ [(28, none, 27), (30, none, 29)] [18, 19, 20, 21, 22, 23, 24, 25]
        [⟨some 37, none, .ia 1 (.t 34) (.t 36)⟩,
        ⟨some 38, none, .ld (.t 37)⟩,
        ⟨some 39, none, .ia 1 (.t 33) (.t 38)⟩,
        ⟨some 40, none, .ld (.t 39)⟩,
        ⟨some 2, none, .mv (.t 19)⟩,
        ⟨some 3, none, .mv (.t 20)⟩,
        ⟨some 4, none, .mv (.t 30)⟩,
        ⟨some 5, none, .mv (.t 40)⟩]
      .fin)
def p1_spec_DrawRunPaused : Plan := (.one 15 ⟨some 34, none, .bsl ty_int [.i .i64 0] 6 [(0, 1, .k (.i .i64 0)), (1, 1, .k (.i .i64 0)), (2, 1, .k (.i .i64 0)), (3, 1, .k (.i .i64 0)), (4, 1, .k (.i .i64 1)), (5, 1, .k (.i .i64 2))]⟩ [(28, none, 27), (30, none, 29)] [18, 19, 20, 21, 25]
        [⟨some 37, none, .ia 1 (.t 34) (.t 36)⟩,
        ⟨some 38, none, .ld (.t 37)⟩,
        ⟨some 39, none, .ia 1 (.t 33) (.t 38)⟩,
        ⟨some 40, none, .ld (.t 39)⟩,
        ⟨some 5, none, .mv (.t 40)⟩]
      .fin)
def p2_spec_DrawRunPaused : Plan := (.alt (.one 15 ⟨some 34, none, .bsl ty_int [.i .i64 0] 6 [(0, 1, .k (.i .i64 0)), (1, 1, .k (.i .i64 0)), (2, 1, .k (.i .i64 0)), (3, 1, .k (.i .i64 0)), (4, 1, .k (.i .i64 1)), (5, 1, .k (.i .i64 2))]⟩ [(28, none, 27), (30, none, 29)] []
        []
      p0_spec_DrawRunPaused) (.one 17 ⟨some 36, none, .call (.k (.fn n_spec_l20Rd_pick [] [])) [.t 35, .k (.i .i64 6)]⟩ [(28, none, 27), (30, none, 29)] [22, 23, 24]
        [⟨some 2, none, .mv (.t 19)⟩,
        ⟨some 3, none, .mv (.t 20)⟩,
        ⟨some 4, none, .mv (.t 30)⟩]
      p1_spec_DrawRunPaused))
def p3_spec_DrawRunPaused : Plan := (.one 14 ⟨some 33, none, .bsl ty_int [.i .i64 0] 3 [(0, 1, .t 32), (1, 1, .k (.i .i64 (-1))), (2, 1, .k (.i .i64 121))]⟩ [(28, none, 27), (30, none, 29), (38, none, 37)] [20, 21, 25]
        [⟨some 39, none, .ia 1 (.t 33) (.t 38)⟩,
        ⟨some 40, none, .ld (.t 39)⟩,
        ⟨some 5, none, .mv (.t 40)⟩]
      .fin)
def p4_spec_DrawRunPaused : Plan := (.alt (.one 14 ⟨some 33, none, .bsl ty_int [.i .i64 0] 3 [(0, 1, .t 32), (1, 1, .k (.i .i64 (-1))), (2, 1, .k (.i .i64 121))]⟩ [(28, none, 27), (30, none, 29)] []
        []
      p0_spec_DrawRunPaused) (.one 17 ⟨some 36, none, .call (.k (.fn n_spec_l20Rd_pick [] [])) [.t 35, .k (.i .i64 6)]⟩ [(28, none, 27), (30, none, 29)] [18, 19, 22, 23, 24]
        [⟨some 37, none, .ia 1 (.t 34) (.t 36)⟩,
        ⟨some 38, none, .ld (.t 37)⟩,
        ⟨some 2, none, .mv (.t 19)⟩,
        ⟨some 3, none, .mv (.t 20)⟩,
        ⟨some 4, none, .mv (.t 30)⟩]
      p3_spec_DrawRunPaused))
def p5_spec_DrawRunPaused : Plan := (.alt (.one 14 ⟨some 33, none, .bsl ty_int [.i .i64 0] 3 [(0, 1, .t 32), (1, 1, .k (.i .i64 (-1))), (2, 1, .k (.i .i64 121))]⟩ [(28, none, 27), (30, none, 29)] []
        []
      p1_spec_DrawRunPaused) (.one 15 ⟨some 34, none, .bsl ty_int [.i .i64 0] 6 [(0, 1, .k (.i .i64 0)), (1, 1, .k (.i .i64 0)), (2, 1, .k (.i .i64 0)), (3, 1, .k (.i .i64 0)), (4, 1, .k (.i .i64 1)), (5, 1, .k (.i .i64 2))]⟩ [(28, none, 27), (30, none, 29)] [18, 19]
        [⟨some 37, none, .ia 1 (.t 34) (.t 36)⟩,
        ⟨some 38, none, .ld (.t 37)⟩]
      p3_spec_DrawRunPaused))
def p6_spec_DrawRunPaused : Plan := (.alt (.one 14 ⟨some 33, none, .bsl ty_int [.i .i64 0] 3 [(0, 1, .t 32), (1, 1, .k (.i .i64 (-1))), (2, 1, .k (.i .i64 121))]⟩ [(28, none, 27), (30, none, 29)] []
        []
      p2_spec_DrawRunPaused) (.alt (.one 15 ⟨some 34, none, .bsl ty_int [.i .i64 0] 6 [(0, 1, .k (.i .i64 0)), (1, 1, .k (.i .i64 0)), (2, 1, .k (.i .i64 0)), (3, 1, .k (.i .i64 0)), (4, 1, .k (.i .i64 1)), (5, 1, .k (.i .i64 2))]⟩ [(28, none, 27), (30, none, 29)] []
        []
      p4_spec_DrawRunPaused) (.one 17 ⟨some 36, none, .call (.k (.fn n_spec_l20Rd_pick [] [])) [.t 35, .k (.i .i64 6)]⟩ [(28, none, 27), (30, none, 29)] [22, 23, 24]
        [⟨some 2, none, .mv (.t 19)⟩,
        ⟨some 3, none, .mv (.t 20)⟩,
        ⟨some 4, none, .mv (.t 30)⟩]
      p5_spec_DrawRunPaused)))
def p7_spec_DrawRunPaused : Plan := (.one 13 ⟨some 32, none, .call (.k (.fn n_spec_l20Rd_pick [] [])) [.t 31, .k (.i .i64 9)]⟩ [(28, none, 27), (30, none, 29)] []
        []
      p4_spec_DrawRunPaused)
def p8_spec_DrawRunPaused : Plan := (.alt (.one 13 ⟨some 32, none, .call (.k (.fn n_spec_l20Rd_pick [] [])) [.t 31, .k (.i .i64 9)]⟩ [(28, none, 27), (30, none, 29)] []
        []
      p6_spec_DrawRunPaused) (.one 15 ⟨some 34, none, .bsl ty_int [.i .i64 0] 6 [(0, 1, .k (.i .i64 0)), (1, 1, .k (.i .i64 0)), (2, 1, .k (.i .i64 0)), (3, 1, .k (.i .i64 0)), (4, 1, .k (.i .i64 1)), (5, 1, .k (.i .i64 2))]⟩ [(28, none, 27), (30, none, 29)] []
        []
      p7_spec_DrawRunPaused))
def p9_spec_DrawRunPaused : Plan := (.one 7 ⟨some 26, none, .call (.k (.fn n_spec_l20Rd_pick [] [])) [.t 25, .k (.i .i64 6)]⟩ [] [8, 9, 10, 11]
        [⟨some 27, none, .ia 1 (.t 24) (.t 26)⟩,
        ⟨some 28, none, .ld (.t 27)⟩,
        ⟨some 29, none, .ia 1 (.t 23) (.t 28)⟩,
        ⟨some 30, none, .ld (.t 29)⟩]
      p7_spec_DrawRunPaused)
def p10_spec_DrawRunPaused : Plan := (.alt (.one 7 ⟨some 26, none, .call (.k (.fn n_spec_l20Rd_pick [] [])) [.t 25, .k (.i .i64 6)]⟩ [] [8, 9, 10, 11]
        [⟨some 27, none, .ia 1 (.t 24) (.t 26)⟩,
        ⟨some 28, none, .ld (.t 27)⟩,
        ⟨some 29, none, .ia 1 (.t 23) (.t 28)⟩,
        ⟨some 30, none, .ld (.t 29)⟩]
      p8_spec_DrawRunPaused) (.one 15 ⟨some 34, none, .bsl ty_int [.i .i64 0] 6 [(0, 1, .k (.i .i64 0)), (1, 1, .k (.i .i64 0)), (2, 1, .k (.i .i64 0)), (3, 1, .k (.i .i64 0)), (4, 1, .k (.i .i64 1)), (5, 1, .k (.i .i64 2))]⟩ [] []
        []
      p9_spec_DrawRunPaused))
def p11_spec_DrawRunPaused : Plan := (.one 5 ⟨some 24, none, .bsl ty_int [.i .i64 0] 6 [(0, 1, .k (.i .i64 0)), (1, 1, .k (.i .i64 0)), (2, 1, .k (.i .i64 0)), (3, 1, .k (.i .i64 0)), (4, 1, .k (.i .i64 1)), (5, 1, .k (.i .i64 2))]⟩ [(38, none, 37), (40, none, 39)] [8, 9, 10, 11, 24, 25]
        [⟨some 27, none, .ia 1 (.t 24) (.t 26)⟩,
        ⟨some 28, none, .ld (.t 27)⟩,
        ⟨some 29, none, .ia 1 (.t 23) (.t 28)⟩,
        ⟨some 30, none, .ld (.t 29)⟩,
        ⟨some 4, none, .mv (.t 30)⟩,
        ⟨some 5, none, .mv (.t 40)⟩]
      .fin)
def p12_spec_DrawRunPaused : Plan := (.alt (.one 5 ⟨some 24, none, .bsl ty_int [.i .i64 0] 6 [(0, 1, .k (.i .i64 0)), (1, 1, .k (.i .i64 0)), (2, 1, .k (.i .i64 0)), (3, 1, .k (.i .i64 0)), (4, 1, .k (.i .i64 1)), (5, 1, .k (.i .i64 2))]⟩ [] [8, 9, 10, 11]
        [⟨some 27, none, .ia 1 (.t 24) (.t 26)⟩,
        ⟨some 28, none, .ld (.t 27)⟩,
        ⟨some 29, none, .ia 1 (.t 23) (.t 28)⟩,
        ⟨some 30, none, .ld (.t 29)⟩]
      p0_spec_DrawRunPaused) (.one 17 ⟨some 36, none, .call (.k (.fn n_spec_l20Rd_pick [] [])) [.t 35, .k (.i .i64 6)]⟩ [] [18, 19, 20, 21, 22, 23]
        [⟨some 37, none, .ia 1 (.t 34) (.t 36)⟩,
        ⟨some 38, none, .ld (.t 37)⟩,
        ⟨some 39, none, .ia 1 (.t 33) (.t 38)⟩,
        ⟨some 40, none, .ld (.t 39)⟩,
        ⟨some 2, none, .mv (.t 19)⟩,
        ⟨some 3, none, .mv (.t 20)⟩]
      p11_spec_DrawRunPaused))
def p13_spec_DrawRunPaused : Plan := (.alt (.one 5 ⟨some 24, none, .bsl ty_int [.i .i64 0] 6 [(0, 1, .k (.i .i64 0)), (1, 1, .k (.i .i64 0)), (2, 1, .k (.i .i64 0)), (3, 1, .k (.i .i64 0)), (4, 1, .k (.i .i64 1)), (5, 1, .k (.i .i64 2))]⟩ [] [8, 9, 10, 11, 24]
        [⟨some 27, none, .ia 1 (.t 24) (.t 26)⟩,
        ⟨some 28, none, .ld (.t 27)⟩,
        ⟨some 29, none, .ia 1 (.t 23) (.t 28)⟩,
        ⟨some 30, none, .ld (.t 29)⟩,
        ⟨some 4, none, .mv (.t 30)⟩]
      p1_spec_DrawRunPaused) (.one 15 ⟨some 34, none, .bsl ty_int [.i .i64 0] 6 [(0, 1, .k (.i .i64 0)), (1, 1, .k (.i .i64 0)), (2, 1, .k (.i .i64 0)), (3, 1, .k (.i .i64 0)), (4, 1, .k (.i .i64 1)), (5, 1, .k (.i .i64 2))]⟩ [] [18, 19, 20, 21]
        [⟨some 37, none, .ia 1 (.t 34) (.t 36)⟩,
        ⟨some 38, none, .ld (.t 37)⟩,
        ⟨some 39, none, .ia 1 (.t 33) (.t 38)⟩,
        ⟨some 40, none, .ld (.t 39)⟩]
      p11_spec_DrawRunPaused))
def p14_spec_DrawRunPaused : Plan := (.alt (.one 5 ⟨some 24, none, .bsl ty_int [.i .i64 0] 6 [(0, 1, .k (.i .i64 0)), (1, 1, .k (.i .i64 0)), (2, 1, .k (.i .i64 0)), (3, 1, .k (.i .i64 0)), (4, 1, .k (.i .i64 1)), (5, 1, .k (.i .i64 2))]⟩ [] [8, 9, 10, 11]
        [⟨some 27, none, .ia 1 (.t 24) (.t 26)⟩,
        ⟨some 28, none, .ld (.t 27)⟩,
        ⟨some 29, none, .ia 1 (.t 23) (.t 28)⟩,
        ⟨some 30, none, .ld (.t 29)⟩]
      p2_spec_DrawRunPaused) (.alt (.one 15 ⟨some 34, none, .bsl ty_int [.i .i64 0] 6 [(0, 1, .k (.i .i64 0)), (1, 1, .k (.i .i64 0)), (2, 1, .k (.i .i64 0)), (3, 1, .k (.i .i64 0)), (4, 1, .k (.i .i64 1)), (5, 1, .k (.i .i64 2))]⟩ [] []
        []
      p12_spec_DrawRunPaused) (.one 17 ⟨some 36, none, .call (.k (.fn n_spec_l20Rd_pick [] [])) [.t 35, .k (.i .i64 6)]⟩ [] [22, 23]
        [⟨some 2, none, .mv (.t 19)⟩,
        ⟨some 3, none, .mv (.t 20)⟩]
      p13_spec_DrawRunPaused)))
def p15_spec_DrawRunPaused : Plan := (.alt (.one 5 ⟨some 24, none, .bsl ty_int [.i .i64 0] 6 [(0, 1, .k (.i .i64 0)), (1, 1, .k (.i .i64 0)), (2, 1, .k (.i .i64 0)), (3, 1, .k (.i .i64 0)), (4, 1, .k (.i .i64 1)), (5, 1, .k (.i .i64 2))]⟩ [(38, none, 37)] [8, 9, 10, 11, 24]
        [⟨some 27, none, .ia 1 (.t 24) (.t 26)⟩,
        ⟨some 28, none, .ld (.t 27)⟩,
        ⟨some 29, none, .ia 1 (.t 23) (.t 28)⟩,
        ⟨some 30, none, .ld (.t 29)⟩,
        ⟨some 4, none, .mv (.t 30)⟩]
      p3_spec_DrawRunPaused) (.one 14 ⟨some 33, none, .bsl ty_int [.i .i64 0] 3 [(0, 1, .t 32), (1, 1, .k (.i .i64 (-1))), (2, 1, .k (.i .i64 121))]⟩ [(38, none, 37)] [20, 21]
        [⟨some 39, none, .ia 1 (.t 33) (.t 38)⟩,
        ⟨some 40, none, .ld (.t 39)⟩]
      p11_spec_DrawRunPaused))
def p16_spec_DrawRunPaused : Plan := (.alt (.one 5 ⟨some 24, none, .bsl ty_int [.i .i64 0] 6 [(0, 1, .k (.i .i64 0)), (1, 1, .k (.i .i64 0)), (2, 1, .k (.i .i64 0)), (3, 1, .k (.i .i64 0)), (4, 1, .k (.i .i64 1)), (5, 1, .k (.i .i64 2))]⟩ [] [8, 9, 10, 11]
        [⟨some 27, none, .ia 1 (.t 24) (.t 26)⟩,
        ⟨some 28, none, .ld (.t 27)⟩,
        ⟨some 29, none, .ia 1 (.t 23) (.t 28)⟩,
        ⟨some 30, none, .ld (.t 29)⟩]
      p4_spec_DrawRunPaused) (.alt (.one 14 ⟨some 33, none, .bsl ty_int [.i .i64 0] 3 [(0, 1, .t 32), (1, 1, .k (.i .i64 (-1))), (2, 1, .k (.i .i64 121))]⟩ [] []
        []
      p12_spec_DrawRunPaused) (.one 17 ⟨some 36, none, .call (.k (.fn n_spec_l20Rd_pick [] [])) [.t 35, .k (.i .i64 6)]⟩ [] [18, 19, 22, 23]
        [⟨some 37, none, .ia 1 (.t 34) (.t 36)⟩,
        ⟨some 38, none, .ld (.t 37)⟩,
        ⟨some 2, none, .mv (.t 19)⟩,
        ⟨some 3, none, .mv (.t 20)⟩]
      p15_spec_DrawRunPaused)))
def p17_spec_DrawRunPaused : Plan := (.alt (.one 5 ⟨some 24, none, .bsl ty_int [.i .i64 0] 6 [(0, 1, .k (.i .i64 0)), (1, 1, .k (.i .i64 0)), (2, 1, .k (.i .i64 0)), (3, 1, .k (.i .i64 0)), (4, 1, .k (.i .i64 1)), (5, 1, .k (.i .i64 2))]⟩ [] [8, 9, 10, 11, 24]
        [⟨some 27, none, .ia 1 (.t 24) (.t 26)⟩,
        ⟨some 28, none, .ld (.t 27)⟩,
        ⟨some 29, none, .ia 1 (.t 23) (.t 28)⟩,
        ⟨some 30, none, .ld (.t 29)⟩,
        ⟨some 4, none, .mv (.t 30)⟩]
      p5_spec_DrawRunPaused) (.alt (.one 14 ⟨some 33, none, .bsl ty_int [.i .i64 0] 3 [(0, 1, .t 32), (1, 1, .k (.i .i64 (-1))), (2, 1, .k (.i .i64 121))]⟩ [] []
        []
      p13_spec_DrawRunPaused) (.one 15 ⟨some 34, none, .bsl ty_int [.i .i64 0] 6 [(0, 1, .k (.i .i64 0)), (1, 1, .k (.i .i64 0)), (2, 1, .k (.i .i64 0)), (3, 1, .k (.i .i64 0)), (4, 1, .k (.i .i64 1)), (5, 1, .k (.i .i64 2))]⟩ [] [18, 19]
        [⟨some 37, none, .ia 1 (.t 34) (.t 36)⟩,
        ⟨some 38, none, .ld (.t 37)⟩]
      p15_spec_DrawRunPaused)))
def p18_spec_DrawRunPaused : Plan := (.alt (.one 5 ⟨some 24, none, .bsl ty_int [.i .i64 0] 6 [(0, 1, .k (.i .i64 0)), (1, 1, .k (.i .i64 0)), (2, 1, .k (.i .i64 0)), (3, 1, .k (.i .i64 0)), (4, 1, .k (.i .i64 1)), (5, 1, .k (.i .i64 2))]⟩ [] [8, 9, 10, 11]
        [⟨some 27, none, .ia 1 (.t 24) (.t 26)⟩,
        ⟨some 28, none, .ld (.t 27)⟩,
        ⟨some 29, none, .ia 1 (.t 23) (.t 28)⟩,
        ⟨some 30, none, .ld (.t 29)⟩]
      p6_spec_DrawRunPaused) (.alt (.one 14 ⟨some 33, none, .bsl ty_int [.i .i64 0] 3 [(0, 1, .t 32), (1, 1, .k (.i .i64 (-1))), (2, 1, .k (.i .i64 121))]⟩ [] []
        []
      p14_spec_DrawRunPaused) (.alt (.one 15 ⟨some 34, none, .bsl ty_int [.i .i64 0] 6 [(0, 1, .k (.i .i64 0)), (1, 1, .k (.i .i64 0)), (2, 1, .k (.i .i64 0)), (3, 1, .k (.i .i64 0)), (4, 1, .k (.i .i64 1)), (5, 1, .k (.i .i64 2))]⟩ [] []
        []
      p16_spec_DrawRunPaused) (.one 17 ⟨some 36, none, .call (.k (.fn n_spec_l20Rd_pick [] [])) [.t 35, .k (.i .i64 6)]⟩ [] [22, 23]
        [⟨some 2, none, .mv (.t 19)⟩,
        ⟨some 3, none, .mv (.t 20)⟩]
      p17_spec_DrawRunPaused))))
def p19_spec_DrawRunPaused : Plan := (.alt (.one 5 ⟨some 24, none, .bsl ty_int [.i .i64 0] 6 [(0, 1, .k (.i .i64 0)), (1, 1, .k (.i .i64 0)), (2, 1, .k (.i .i64 0)), (3, 1, .k (.i .i64 0)), (4, 1, .k (.i .i64 1)), (5, 1, .k (.i .i64 2))]⟩ [] [8, 9, 10, 11]
        [⟨some 27, none, .ia 1 (.t 24) (.t 26)⟩,
        ⟨some 28, none, .ld (.t 27)⟩,
        ⟨some 29, none, .ia 1 (.t 23) (.t 28)⟩,
        ⟨some 30, none, .ld (.t 29)⟩]
      p7_spec_DrawRunPaused) (.one 13 ⟨some 32, none, .call (.k (.fn n_spec_l20Rd_pick [] [])) [.t 31, .k (.i .i64 9)]⟩ [] []
        []
      p16_spec_DrawRunPaused))
def p20_spec_DrawRunPaused : Plan := (.alt (.one 5 ⟨some 24, none, .bsl ty_int [.i .i64 0] 6 [(0, 1, .k (.i .i64 0)), (1, 1, .k (.i .i64 0)), (2, 1, .k (.i .i64 0)), (3, 1, .k (.i .i64 0)), (4, 1, .k (.i .i64 1)), (5, 1, .k (.i .i64 2))]⟩ [] [8, 9, 10, 11]
        [⟨some 27, none, .ia 1 (.t 24) (.t 26)⟩,
        ⟨some 28, none, .ld (.t 27)⟩,
        ⟨some 29, none, .ia 1 (.t 23) (.t 28)⟩,
        ⟨some 30, none, .ld (.t 29)⟩]
      p8_spec_DrawRunPaused) (.alt (.one 13 ⟨some 32, none, .call (.k (.fn n_spec_l20Rd_pick [] [])) [.t 31, .k (.i .i64 9)]⟩ [] []
        []
      p18_spec_DrawRunPaused) (.one 15 ⟨some 34, none, .bsl ty_int [.i .i64 0] 6 [(0, 1, .k (.i .i64 0)), (1, 1, .k (.i .i64 0)), (2, 1, .k (.i .i64 0)), (3, 1, .k (.i .i64 0)), (4, 1, .k (.i .i64 1)), (5, 1, .k (.i .i64 2))]⟩ [] []
        []
      p19_spec_DrawRunPaused)))
def p21_spec_DrawRunPaused : Plan := (.alt (.one 5 ⟨some 24, none, .bsl ty_int [.i .i64 0] 6 [(0, 1, .k (.i .i64 0)), (1, 1, .k (.i .i64 0)), (2, 1, .k (.i .i64 0)), (3, 1, .k (.i .i64 0)), (4, 1, .k (.i .i64 1)), (5, 1, .k (.i .i64 2))]⟩ [] []
        []
      p9_spec_DrawRunPaused) (.one 7 ⟨some 26, none, .call (.k (.fn n_spec_l20Rd_pick [] [])) [.t 25, .k (.i .i64 6)]⟩ [] []
        []
      p19_spec_DrawRunPaused))
def p22_spec_DrawRunPaused : Plan := (.alt (.one 5 ⟨some 24, none, .bsl ty_int [.i .i64 0] 6 [(0, 1, .k (.i .i64 0)), (1, 1, .k (.i .i64 0)), (2, 1, .k (.i .i64 0)), (3, 1, .k (.i .i64 0)), (4, 1, .k (.i .i64 1)), (5, 1, .k (.i .i64 2))]⟩ [] []
        []
      p10_spec_DrawRunPaused) (.alt (.one 7 ⟨some 26, none, .call (.k (.fn n_spec_l20Rd_pick [] [])) [.t 25, .k (.i .i64 6)]⟩ [] []
        []
      p20_spec_DrawRunPaused) (.one 15 ⟨some 34, none, .bsl ty_int [.i .i64 0] 6 [(0, 1, .k (.i .i64 0)), (1, 1, .k (.i .i64 0)), (2, 1, .k (.i .i64 0)), (3, 1, .k (.i .i64 0)), (4, 1, .k (.i .i64 1)), (5, 1, .k (.i .i64 2))]⟩ [] []
        []
      p21_spec_DrawRunPaused)))
def p23_spec_DrawRunPaused : Plan := (.one 4 ⟨some 23, none, .bsl ty_int [.i .i64 0] 3 [(0, 1, .t 22), (1, 1, .k (.i .i64 (-1))), (2, 1, .k (.i .i64 120))]⟩ [(28, none, 27), (38, none, 37), (40, none, 39)] [10, 11, 24, 25]
        [⟨some 29, none, .ia 1 (.t 23) (.t 28)⟩,
        ⟨some 30, none, .ld (.t 29)⟩,
        ⟨some 4, none, .mv (.t 30)⟩,
        ⟨some 5, none, .mv (.t 40)⟩]
      .fin)
def p24_spec_DrawRunPaused : Plan := (.alt (.one 4 ⟨some 23, none, .bsl ty_int [.i .i64 0] 3 [(0, 1, .t 22), (1, 1, .k (.i .i64 (-1))), (2, 1, .k (.i .i64 120))]⟩ [(28, none, 27)] [10, 11]
        [⟨some 29, none, .ia 1 (.t 23) (.t 28)⟩,
        ⟨some 30, none, .ld (.t 29)⟩]
      p0_spec_DrawRunPaused) (.one 17 ⟨some 36, none, .call (.k (.fn n_spec_l20Rd_pick [] [])) [.t 35, .k (.i .i64 6)]⟩ [(28, none, 27)] [18, 19, 20, 21, 22, 23]
        [⟨some 37, none, .ia 1 (.t 34) (.t 36)⟩,
        ⟨some 38, none, .ld (.t 37)⟩,
        ⟨some 39, none, .ia 1 (.t 33) (.t 38)⟩,
        ⟨some 40, none, .ld (.t 39)⟩,
        ⟨some 2, none, .mv (.t 19)⟩,
        ⟨some 3, none, .mv (.t 20)⟩]
      p23_spec_DrawRunPaused))
def p25_spec_DrawRunPaused : Plan := (.alt (.one 4 ⟨some 23, none, .bsl ty_int [.i .i64 0] 3 [(0, 1, .t 22), (1, 1, .k (.i .i64 (-1))), (2, 1, .k (.i .i64 120))]⟩ [(28, none, 27)] [10, 11, 24]
        [⟨some 29, none, .ia 1 (.t 23) (.t 28)⟩,
        ⟨some 30, none, .ld (.t 29)⟩,
        ⟨some 4, none, .mv (.t 30)⟩]
      p1_spec_DrawRunPaused) (.one 15 ⟨some 34, none, .bsl ty_int [.i .i64 0] 6 [(0, 1, .k (.i .i64 0)), (1, 1, .k (.i .i64 0)), (2, 1, .k (.i .i64 0)), (3, 1, .k (.i .i64 0)), (4, 1, .k (.i .i64 1)), (5, 1, .k (.i .i64 2))]⟩ [(28, none, 27)] [18, 19, 20, 21]
        [⟨some 37, none, .ia 1 (.t 34) (.t 36)⟩,
        ⟨some 38, none, .ld (.t 37)⟩,
        ⟨some 39, none, .ia 1 (.t 33) (.t 38)⟩,
        ⟨some 40, none, .ld (.t 39)⟩]
      p23_spec_DrawRunPaused))
def p26_spec_DrawRunPaused : Plan := (.alt (.one 4 ⟨some 23, none, .bsl ty_int [.i .i64 0] 3 [(0, 1, .t 22), (1, 1, .k (.i .i64 (-1))), (2, 1, .k (.i .i64 120))]⟩ [(28, none, 27)] [10, 11]
        [⟨some 29, none, .ia 1 (.t 23) (.t 28)⟩,
        ⟨some 30, none, .ld (.t 29)⟩]
      p2_spec_DrawRunPaused) (.alt (.one 15 ⟨some 34, none, .bsl ty_int [.i .i64 0] 6 [(0, 1, .k (.i .i64 0)), (1, 1, .k (.i .i64 0)), (2, 1, .k (.i .i64 0)), (3, 1, .k (.i .i64 0)), (4, 1, .k (.i .i64 1)), (5, 1, .k (.i .i64 2))]⟩ [(28, none, 27)] []
        []
      p24_spec_DrawRunPaused) (.one 17 ⟨some 36, none, .call (.k (.fn n_spec_l20Rd_pick [] [])) [.t 35, .k (.i .i64 6)]⟩ [(28, none, 27)] [22, 23]
        [⟨some 2, none, .mv (.t 19)⟩,
        ⟨some 3, none, .mv (.t 20)⟩]
      p25_spec_DrawRunPaused)))
def p27_spec_DrawRunPaused : Plan := (.alt (.one 4 ⟨some 23, none, .bsl ty_int [.i .i64 0] 3 [(0, 1, .t 22), (1, 1, .k (.i .i64 (-1))), (2, 1, .k (.i .i64 120))]⟩ [(28, none, 27), (38, none, 37)] [10, 11, 24]
        [⟨some 29, none, .ia 1 (.t 23) (.t 28)⟩,
        ⟨some 30, none, .ld (.t 29)⟩,
        ⟨some 4, none, .mv (.t 30)⟩]
      p3_spec_DrawRunPaused) (.one 14 ⟨some 33, none, .bsl ty_int [.i .i64 0] 3 [(0, 1, .t 32), (1, 1, .k (.i .i64 (-1))), (2, 1, .k (.i .i64 121))]⟩ [(28, none, 27), (38, none, 37)] [20, 21]
        [⟨some 39, none, .ia 1 (.t 33) (.t 38)⟩,
        ⟨some 40, none, .ld (.t 39)⟩]
      p23_spec_DrawRunPaused))
def p28_spec_DrawRunPaused : Plan := (.alt (.one 4 ⟨some 23, none, .bsl ty_int [.i .i64 0] 3 [(0, 1, .t 22), (1, 1, .k (.i .i64 (-1))), (2, 1, .k (.i .i64 120))]⟩ [(28, none, 27)] [10, 11]
        [⟨some 29, none, .ia 1 (.t 23) (.t 28)⟩,
        ⟨some 30, none, .ld (.t 29)⟩]
      p4_spec_DrawRunPaused) (.alt (.one 14 ⟨some 33, none, .bsl ty_int [.i .i64 0] 3 [(0, 1, .t 32), (1, 1, .k (.i .i64 (-1))), (2, 1, .k (.i .i64 121))]⟩ [(28, none, 27)] []
        []
      p24_spec_DrawRunPaused) (.one 17 ⟨some 36, none, .call (.k (.fn n_spec_l20Rd_pick [] [])) [.t 35, .k (.i .i64 6)]⟩ [(28, none, 27)] [18, 19, 22, 23]
        [⟨some 37, none, .ia 1 (.t 34) (.t 36)⟩,
        ⟨some 38, none, .ld (.t 37)⟩,
        ⟨some 2, none, .mv (.t 19)⟩,
        ⟨some 3, none, .mv (.t 20)⟩]
      p27_spec_DrawRunPaused)))
def p29_spec_DrawRunPaused : Plan := (.alt (.one 4 ⟨some 23, none, .bsl ty_int [.i .i64 0] 3 [(0, 1, .t 22), (1, 1, .k (.i .i64 (-1))), (2, 1, .k (.i .i64 120))]⟩ [(28, none, 27)] [10, 11, 24]
        [⟨some 29, none, .ia 1 (.t 23) (.t 28)⟩,
        ⟨some 30, none, .ld (.t 29)⟩,
        ⟨some 4, none, .mv (.t 30)⟩]
      p5_spec_DrawRunPaused) (.alt (.one 14 ⟨some 33, none, .bsl ty_int [.i .i64 0] 3 [(0, 1, .t 32), (1, 1, .k (.i .i64 (-1))), (2, 1, .k (.i .i64 121))]⟩ [(28, none, 27)] []
        []
      p25_spec_DrawRunPaused) (.one 15 ⟨some 34, none, .bsl ty_int [.i .i64 0] 6 [(0, 1, .k (.i .i64 0)), (1, 1, .k (.i .i64 0)), (2, 1, .k (.i .i64 0)), (3, 1, .k (.i .i64 0)), (4, 1, .k (.i .i64 1)), (5, 1, .k (.i .i64 2))]⟩ [(28, none, 27)] [18, 19]
        [⟨some 37, none, .ia 1 (.t 34) (.t 36)⟩,
        ⟨some 38, none, .ld (.t 37)⟩]
      p27_spec_DrawRunPaused)))
def p30_spec_DrawRunPaused : Plan := (.alt (.one 4 ⟨some 23, none, .bsl ty_int [.i .i64 0] 3 [(0, 1, .t 22), (1, 1, .k (.i .i64 (-1))), (2, 1, .k (.i .i64 120))]⟩ [(28, none, 27)] [10, 11]
        [⟨some 29, none, .ia 1 (.t 23) (.t 28)⟩,
        ⟨some 30, none, .ld (.t 29)⟩]
      p6_spec_DrawRunPaused) (.alt (.one 14 ⟨some 33, none, .bsl ty_int [.i .i64 0] 3 [(0, 1, .t 32), (1, 1, .k (.i .i64 (-1))), (2, 1, .k (.i .i64 121))]⟩ [(28, none, 27)] []
        []
      p26_spec_DrawRunPaused) (.alt (.one 15 ⟨some 34, none, .bsl ty_int [.i .i64 0] 6 [(0, 1, .k (.i .i64 0)), (1, 1, .k (.i .i64 0)), (2, 1, .k (.i .i64 0)), (3, 1, .k (.i .i64 0)), (4, 1, .k (.i .i64 1)), (5, 1, .k (.i .i64 2))]⟩ [(28, none, 27)] []
        []
      p28_spec_DrawRunPaused) (.one 17 ⟨some 36, none, .call (.k (.fn n_spec_l20Rd_pick [] [])) [.t 35, .k (.i .i64 6)]⟩ [(28, none, 27)] [22, 23]
        [⟨some 2, none, .mv (.t 19)⟩,
        ⟨some 3, none, .mv (.t 20)⟩]
      p29_spec_DrawRunPaused))))
def p31_spec_DrawRunPaused : Plan := (.alt (.one 4 ⟨some 23, none, .bsl ty_int [.i .i64 0] 3 [(0, 1, .t 22), (1, 1, .k (.i .i64 (-1))), (2, 1, .k (.i .i64 120))]⟩ [(28, none, 27)] [10, 11]
        [⟨some 29, none, .ia 1 (.t 23) (.t 28)⟩,
        ⟨some 30, none, .ld (.t 29)⟩]
      p7_spec_DrawRunPaused) (.one 13 ⟨some 32, none, .call (.k (.fn n_spec_l20Rd_pick [] [])) [.t 31, .k (.i .i64 9)]⟩ [(28, none, 27)] []
        []
      p28_spec_DrawRunPaused))
def p32_spec_DrawRunPaused : Plan := (.alt (.one 4 ⟨some 23, none, .bsl ty_int [.i .i64 0] 3 [(0, 1, .t 22), (1, 1, .k (.i .i64 (-1))), (2, 1, .k (.i .i64 120))]⟩ [(28, none, 27)] [10, 11]
        [⟨some 29, none, .ia 1 (.t 23) (.t 28)⟩,
        ⟨some 30, none, .ld (.t 29)⟩]
      p8_spec_DrawRunPaused) (.alt (.one 13 ⟨some 32, none, .call (.k (.fn n_spec_l20Rd_pick [] [])) [.t 31, .k (.i .i64 9)]⟩ [(28, none, 27)] []
        []
      p30_spec_DrawRunPaused) (.one 15 ⟨some 34, none, .bsl ty_int [.i .i64 0] 6 [(0, 1, .k (.i .i64 0)), (1, 1, .k (.i .i64 0)), (2, 1, .k (.i .i64 0)), (3, 1, .k (.i .i64 0)), (4, 1, .k (.i .i64 1)), (5, 1, .k (.i .i64 2))]⟩ [(28, none, 27)] []
        []
      p31_spec_DrawRunPaused)))
def p33_spec_DrawRunPaused : Plan := (.alt (.one 4 ⟨some 23, none, .bsl ty_int [.i .i64 0] 3 [(0, 1, .t 22), (1, 1, .k (.i .i64 (-1))), (2, 1, .k (.i .i64 120))]⟩ [] []
        []
      p9_spec_DrawRunPaused) (.one 7 ⟨some 26, none, .call (.k (.fn n_spec_l20Rd_pick [] [])) [.t 25, .k (.i .i64 6)]⟩ [] [8, 9]
        [⟨some 27, none, .ia 1 (.t 24) (.t 26)⟩,
        ⟨some 28, none, .ld (.t 27)⟩]
      p31_spec_DrawRunPaused))
def p34_spec_DrawRunPaused : Plan := (.alt (.one 4 ⟨some 23, none, .bsl ty_int [.i .i64 0] 3 [(0, 1, .t 22), (1, 1, .k (.i .i64 (-1))), (2, 1, .k (.i .i64 120))]⟩ [] []
        []
      p10_spec_DrawRunPaused) (.alt (.one 7 ⟨some 26, none, .call (.k (.fn n_spec_l20Rd_pick [] [])) [.t 25, .k (.i .i64 6)]⟩ [] [8, 9]
        [⟨some 27, none, .ia 1 (.t 24) (.t 26)⟩,
        ⟨some 28, none, .ld (.t 27)⟩]
      p32_spec_DrawRunPaused) (.one 15 ⟨some 34, none, .bsl ty_int [.i .i64 0] 6 [(0, 1, .k (.i .i64 0)), (1, 1, .k (.i .i64 0)), (2, 1, .k (.i .i64 0)), (3, 1, .k (.i .i64 0)), (4, 1, .k (.i .i64 1)), (5, 1, .k (.i .i64 2))]⟩ [] []
        []
      p33_spec_DrawRunPaused)))
def p35_spec_DrawRunPaused : Plan := (.alt (.one 4 ⟨some 23, none, .bsl ty_int [.i .i64 0] 3 [(0, 1, .t 22), (1, 1, .k (.i .i64 (-1))), (2, 1, .k (.i .i64 120))]⟩ [(38, none, 37), (40, none, 39)] []
        []
      p11_spec_DrawRunPaused) (.one 5 ⟨some 24, none, .bsl ty_int [.i .i64 0] 6 [(0, 1, .k (.i .i64 0)), (1, 1, .k (.i .i64 0)), (2, 1, .k (.i .i64 0)), (3, 1, .k (.i .i64 0)), (4, 1, .k (.i .i64 1)), (5, 1, .k (.i .i64 2))]⟩ [(38, none, 37), (40, none, 39)] [8, 9]
        [⟨some 27, none, .ia 1 (.t 24) (.t 26)⟩,
        ⟨some 28, none, .ld (.t 27)⟩]
      p23_spec_DrawRunPaused))
def p36_spec_DrawRunPaused : Plan := (.alt (.one 4 ⟨some 23, none, .bsl ty_int [.i .i64 0] 3 [(0, 1, .t 22), (1, 1, .k (.i .i64 (-1))), (2, 1, .k (.i .i64 120))]⟩ [] []
        []
      p12_spec_DrawRunPaused) (.alt (.one 5 ⟨some 24, none, .bsl ty_int [.i .i64 0] 6 [(0, 1, .k (.i .i64 0)), (1, 1, .k (.i .i64 0)), (2, 1, .k (.i .i64 0)), (3, 1, .k (.i .i64 0)), (4, 1, .k (.i .i64 1)), (5, 1, .k (.i .i64 2))]⟩ [] [8, 9]
        [⟨some 27, none, .ia 1 (.t 24) (.t 26)⟩,
        ⟨some 28, none, .ld (.t 27)⟩]
      p24_spec_DrawRunPaused) (.one 17 ⟨some 36, none, .call (.k (.fn n_spec_l20Rd_pick [] [])) [.t 35, .k (.i .i64 6)]⟩ [] [18, 19, 20, 21, 22, 23]
        [⟨some 37, none, .ia 1 (.t 34) (.t 36)⟩,
        ⟨some 38, none, .ld (.t 37)⟩,
        ⟨some 39, none, .ia 1 (.t 33) (.t 38)⟩,
        ⟨some 40, none, .ld (.t 39)⟩,
        ⟨some 2, none, .mv (.t 19)⟩,
        ⟨some 3, none, .mv (.t 20)⟩]
      p35_spec_DrawRunPaused)))
def p37_spec_DrawRunPaused : Plan := (.alt (.one 4 ⟨some 23, none, .bsl ty_int [.i .i64 0] 3 [(0, 1, .t 22), (1, 1, .k (.i .i64 (-1))), (2, 1, .k (.i .i64 120))]⟩ [] []
        []
      p13_spec_DrawRunPaused) (.alt (.one 5 ⟨some 24, none, .bsl ty_int [.i .i64 0] 6 [(0, 1, .k (.i .i64 0)), (1, 1, .k (.i .i64 0)), (2, 1, .k (.i .i64 0)), (3, 1, .k (.i .i64 0)), (4, 1, .k (.i .i64 1)), (5, 1, .k (.i .i64 2))]⟩ [] [8, 9]
        [⟨some 27, none, .ia 1 (.t 24) (.t 26)⟩,
        ⟨some 28, none, .ld (.t 27)⟩]
      p25_spec_DrawRunPaused) (.one 15 ⟨some 34, none, .bsl ty_int [.i .i64 0] 6 [(0, 1, .k (.i .i64 0)), (1, 1, .k (.i .i64 0)), (2, 1, .k (.i .i64 0)), (3, 1, .k (.i .i64 0)), (4, 1, .k (.i .i64 1)), (5, 1, .k (.i .i64 2))]⟩ [] [18, 19, 20, 21]
        [⟨some 37, none, .ia 1 (.t 34) (.t 36)⟩,
        ⟨some 38, none, .ld (.t 37)⟩,
        ⟨some 39, none, .ia 1 (.t 33) (.t 38)⟩,
        ⟨some 40, none, .ld (.t 39)⟩]
      p35_spec_DrawRunPaused)))
def p38_spec_DrawRunPaused : Plan := (.alt (.one 4 ⟨some 23, none, .bsl ty_int [.i .i64 0] 3 [(0, 1, .t 22), (1, 1, .k (.i .i64 (-1))), (2, 1, .k (.i .i64 120))]⟩ [] []
        []
      p14_spec_DrawRunPaused) (.alt (.one 5 ⟨some 24, none, .bsl ty_int [.i .i64 0] 6 [(0, 1, .k (.i .i64 0)), (1, 1, .k (.i .i64 0)), (2, 1, .k (.i .i64 0)), (3, 1, .k (.i .i64 0)), (4, 1, .k (.i .i64 1)), (5, 1, .k (.i .i64 2))]⟩ [] [8, 9]
        [⟨some 27, none, .ia 1 (.t 24) (.t 26)⟩,
        ⟨some 28, none, .ld (.t 27)⟩]
      p26_spec_DrawRunPaused) (.alt (.one 15 ⟨some 34, none, .bsl ty_int [.i .i64 0] 6 [(0, 1, .k (.i .i64 0)), (1, 1, .k (.i .i64 0)), (2, 1, .k (.i .i64 0)), (3, 1, .k (.i .i64 0)), (4, 1, .k (.i .i64 1)), (5, 1, .k (.i .i64 2))]⟩ [] []
        []
      p36_spec_DrawRunPaused) (.one 17 ⟨some 36, none, .call (.k (.fn n_spec_l20Rd_pick [] [])) [.t 35, .k (.i .i64 6)]⟩ [] [22, 23]
        [⟨some 2, none, .mv (.t 19)⟩,
        ⟨some 3, none, .mv (.t 20)⟩]
      p37_spec_DrawRunPaused))))
def p39_spec_DrawRunPaused : Plan := (.alt (.one 4 ⟨some 23, none, .bsl ty_int [.i .i64 0] 3 [(0, 1, .t 22), (1, 1, .k (.i .i64 (-1))), (2, 1, .k (.i .i64 120))]⟩ [(38, none, 37)] []
        []
      p15_spec_DrawRunPaused) (.alt (.one 5 ⟨some 24, none, .bsl ty_int [.i .i64 0] 6 [(0, 1, .k (.i .i64 0)), (1, 1, .k (.i .i64 0)), (2, 1, .k (.i .i64 0)), (3, 1, .k (.i .i64 0)), (4, 1, .k (.i .i64 1)), (5, 1, .k (.i .i64 2))]⟩ [(38, none, 37)] [8, 9]
        [⟨some 27, none, .ia 1 (.t 24) (.t 26)⟩,
        ⟨some 28, none, .ld (.t 27)⟩]
      p27_spec_DrawRunPaused) (.one 14 ⟨some 33, none, .bsl ty_int [.i .i64 0] 3 [(0, 1, .t 32), (1, 1, .k (.i .i64 (-1))), (2, 1, .k (.i .i64 121))]⟩ [(38, none, 37)] [20, 21]
        [⟨some 39, none, .ia 1 (.t 33) (.t 38)⟩,
        ⟨some 40, none, .ld (.t 39)⟩]
      p35_spec_DrawRunPaused)))
def p40_spec_DrawRunPaused : Plan := (.alt (.one 4 ⟨some 23, none, .bsl ty_int [.i .i64 0] 3 [(0, 1, .t 22), (1, 1, .k (.i .i64 (-1))), (2, 1, .k (.i .i64 120))]⟩ [] []
        []
      p16_spec_DrawRunPaused) (.alt (.one 5 ⟨some 24, none, .bsl ty_int [.i .i64 0] 6 [(0, 1, .k (.i .i64 0)), (1, 1, .k (.i .i64 0)), (2, 1, .k (.i .i64 0)), (3, 1, .k (.i .i64 0)), (4, 1, .k (.i .i64 1)), (5, 1, .k (.i .i64 2))]⟩ [] [8, 9]
        [⟨some 27, none, .ia 1 (.t 24) (.t 26)⟩,
        ⟨some 28, none, .ld (.t 27)⟩]
      p28_spec_DrawRunPaused) (.alt (.one 14 ⟨some 33, none, .bsl ty_int [.i .i64 0] 3 [(0, 1, .t 32), (1, 1, .k (.i .i64 (-1))), (2, 1, .k (.i .i64 121))]⟩ [] []
        []
      p36_spec_DrawRunPaused) (.one 17 ⟨some 36, none, .call (.k (.fn n_spec_l20Rd_pick [] [])) [.t 35, .k (.i .i64 6)]⟩ [] [18, 19, 22, 23]
        [⟨some 37, none, .ia 1 (.t 34) (.t 36)⟩,
        ⟨some 38, none, .ld (.t 37)⟩,
        ⟨some 2, none, .mv (.t 19)⟩,
        ⟨some 3, none, .mv (.t 20)⟩]
      p39_spec_DrawRunPaused))))
def p41_spec_DrawRunPaused : Plan := (.alt (.one 4 ⟨some 23, none, .bsl ty_int [.i .i64 0] 3 [(0, 1, .t 22), (1, 1, .k (.i .i64 (-1))), (2, 1, .k (.i .i64 120))]⟩ [] []
        []
      p17_spec_DrawRunPaused) (.alt (.one 5 ⟨some 24, none, .bsl ty_int [.i .i64 0] 6 [(0, 1, .k (.i .i64 0)), (1, 1, .k (.i .i64 0)), (2, 1, .k (.i .i64 0)), (3, 1, .k (.i .i64 0)), (4, 1, .k (.i .i64 1)), (5, 1, .k (.i .i64 2))]⟩ [] [8, 9]
        [⟨some 27, none, .ia 1 (.t 24) (.t 26)⟩,
        ⟨some 28, none, .ld (.t 27)⟩]
      p29_spec_DrawRunPaused) (.alt (.one 14 ⟨some 33, none, .bsl ty_int [.i .i64 0] 3 [(0, 1, .t 32), (1, 1, .k (.i .i64 (-1))), (2, 1, .k (.i .i64 121))]⟩ [] []
        []
      p37_spec_DrawRunPaused) (.one 15 ⟨some 34, none, .bsl ty_int [.i .i64 0] 6 [(0, 1, .k (.i .i64 0)), (1, 1, .k (.i .i64 0)), (2, 1, .k (.i .i64 0)), (3, 1, .k (.i .i64 0)), (4, 1, .k (.i .i64 1)), (5, 1, .k (.i .i64 2))]⟩ [] [18, 19]
        [⟨some 37, none, .ia 1 (.t 34) (.t 36)⟩,
        ⟨some 38, none, .ld (.t 37)⟩]
      p39_spec_DrawRunPaused))))
def p42_spec_DrawRunPaused : Plan := (.alt (.one 4 ⟨some 23, none, .bsl ty_int [.i .i64 0] 3 [(0, 1, .t 22), (1, 1, .k (.i .i64 (-1))), (2, 1, .k (.i .i64 120))]⟩ [] []
        []
      p18_spec_DrawRunPaused) (.alt (.one 5 ⟨some 24, none, .bsl ty_int [.i .i64 0] 6 [(0, 1, .k (.i .i64 0)), (1, 1, .k (.i .i64 0)), (2, 1, .k (.i .i64 0)), (3, 1, .k (.i .i64 0)), (4, 1, .k (.i .i64 1)), (5, 1, .k (.i .i64 2))]⟩ [] [8, 9]
        [⟨some 27, none, .ia 1 (.t 24) (.t 26)⟩,
        ⟨some 28, none, .ld (.t 27)⟩]
      p30_spec_DrawRunPaused) (.alt (.one 14 ⟨some 33, none, .bsl ty_int [.i .i64 0] 3 [(0, 1, .t 32), (1, 1, .k (.i .i64 (-1))), (2, 1, .k (.i .i64 121))]⟩ [] []
        []
      p38_spec_DrawRunPaused) (.alt (.one 15 ⟨some 34, none, .bsl ty_int [.i .i64 0] 6 [(0, 1, .k (.i .i64 0)), (1, 1, .k (.i .i64 0)), (2, 1, .k (.i .i64 0)), (3, 1, .k (.i .i64 0)), (4, 1, .k (.i .i64 1)), (5, 1, .k (.i .i64 2))]⟩ [] []
        []
      p40_spec_DrawRunPaused) (.one 17 ⟨some 36, none, .call (.k (.fn n_spec_l20Rd_pick [] [])) [.t 35, .k (.i .i64 6)]⟩ [] [22, 23]
        [⟨some 2, none, .mv (.t 19)⟩,
        ⟨some 3, none, .mv (.t 20)⟩]
      p41_spec_DrawRunPaused)))))
def p43_spec_DrawRunPaused : Plan := (.alt (.one 4 ⟨some 23, none, .bsl ty_int [.i .i64 0] 3 [(0, 1, .t 22), (1, 1, .k (.i .i64 (-1))), (2, 1, .k (.i .i64 120))]⟩ [] []
        []
      p19_spec_DrawRunPaused) (.alt (.one 5 ⟨some 24, none, .bsl ty_int [.i .i64 0] 6 [(0, 1, .k (.i .i64 0)), (1, 1, .k (.i .i64 0)), (2, 1, .k (.i .i64 0)), (3, 1, .k (.i .i64 0)), (4, 1, .k (.i .i64 1)), (5, 1, .k (.i .i64 2))]⟩ [] [8, 9]
        [⟨some 27, none, .ia 1 (.t 24) (.t 26)⟩,
        ⟨some 28, none, .ld (.t 27)⟩]
      p31_spec_DrawRunPaused) (.one 13 ⟨some 32, none, .call (.k (.fn n_spec_l20Rd_pick [] [])) [.t 31, .k (.i .i64 9)]⟩ [] []
        []
      p40_spec_DrawRunPaused)))
def p44_spec_DrawRunPaused : Plan := (.alt (.one 4 ⟨some 23, none, .bsl ty_int [.i .i64 0] 3 [(0, 1, .t 22), (1, 1, .k (.i .i64 (-1))), (2, 1, .k (.i .i64 120))]⟩ [] []
        []
      p20_spec_DrawRunPaused) (.alt (.one 5 ⟨some 24, none, .bsl ty_int [.i .i64 0] 6 [(0, 1, .k (.i .i64 0)), (1, 1, .k (.i .i64 0)), (2, 1, .k (.i .i64 0)), (3, 1, .k (.i .i64 0)), (4, 1, .k (.i .i64 1)), (5, 1, .k (.i .i64 2))]⟩ [] [8, 9]
        [⟨some 27, none, .ia 1 (.t 24) (.t 26)⟩,
        ⟨some 28, none, .ld (.t 27)⟩]
      p32_spec_DrawRunPaused) (.alt (.one 13 ⟨some 32, none, .call (.k (.fn n_spec_l20Rd_pick [] [])) [.t 31, .k (.i .i64 9)]⟩ [] []
        []
      p42_spec_DrawRunPaused) (.one 15 ⟨some 34, none, .bsl ty_int [.i .i64 0] 6 [(0, 1, .k (.i .i64 0)), (1, 1, .k (.i .i64 0)), (2, 1, .k (.i .i64 0)), (3, 1, .k (.i .i64 0)), (4, 1, .k (.i .i64 1)), (5, 1, .k (.i .i64 2))]⟩ [] []
        []
      p43_spec_DrawRunPaused))))
def p45_spec_DrawRunPaused : Plan := (.alt (.one 4 ⟨some 23, none, .bsl ty_int [.i .i64 0] 3 [(0, 1, .t 22), (1, 1, .k (.i .i64 (-1))), (2, 1, .k (.i .i64 120))]⟩ [] []
        []
      p21_spec_DrawRunPaused) (.alt (.one 5 ⟨some 24, none, .bsl ty_int [.i .i64 0] 6 [(0, 1, .k (.i .i64 0)), (1, 1, .k (.i .i64 0)), (2, 1, .k (.i .i64 0)), (3, 1, .k (.i .i64 0)), (4, 1, .k (.i .i64 1)), (5, 1, .k (.i .i64 2))]⟩ [] []
        []
      p33_spec_DrawRunPaused) (.one 7 ⟨some 26, none, .call (.k (.fn n_spec_l20Rd_pick [] [])) [.t 25, .k (.i .i64 6)]⟩ [] []
        []
      p43_spec_DrawRunPaused)))
def p46_spec_DrawRunPaused : Plan := (.alt (.one 4 ⟨some 23, none, .bsl ty_int [.i .i64 0] 3 [(0, 1, .t 22), (1, 1, .k (.i .i64 (-1))), (2, 1, .k (.i .i64 120))]⟩ [] []
        []
      p22_spec_DrawRunPaused) (.alt (.one 5 ⟨some 24, none, .bsl ty_int [.i .i64 0] 6 [(0, 1, .k (.i .i64 0)), (1, 1, .k (.i .i64 0)), (2, 1, .k (.i .i64 0)), (3, 1, .k (.i .i64 0)), (4, 1, .k (.i .i64 1)), (5, 1, .k (.i .i64 2))]⟩ [] []
        []
      p34_spec_DrawRunPaused) (.alt (.one 7 ⟨some 26, none, .call (.k (.fn n_spec_l20Rd_pick [] [])) [.t 25, .k (.i .i64 6)]⟩ [] []
        []
      p44_spec_DrawRunPaused) (.one 15 ⟨some 34, none, .bsl ty_int [.i .i64 0] 6 [(0, 1, .k (.i .i64 0)), (1, 1, .k (.i .i64 0)), (2, 1, .k (.i .i64 0)), (3, 1, .k (.i .i64 0)), (4, 1, .k (.i .i64 1)), (5, 1, .k (.i .i64 2))]⟩ [] []
        []
      p45_spec_DrawRunPaused))))
def p47_spec_DrawRunPaused : Plan := (.one 3 ⟨some 22, none, .call (.k (.fn n_spec_l20Rd_pick [] [])) [.t 21, .k (.i .i64 60)]⟩ [] []
        []
      p33_spec_DrawRunPaused)
def p48_spec_DrawRunPaused : Plan := (.alt (.one 3 ⟨some 22, none, .call (.k (.fn n_spec_l20Rd_pick [] [])) [.t 21, .k (.i .i64 60)]⟩ [] []
        []
      p34_spec_DrawRunPaused) (.one 15 ⟨some 34, none, .bsl ty_int [.i .i64 0] 6 [(0, 1, .k (.i .i64 0)), (1, 1, .k (.i .i64 0)), (2, 1, .k (.i .i64 0)), (3, 1, .k (.i .i64 0)), (4, 1, .k (.i .i64 1)), (5, 1, .k (.i .i64 2))]⟩ [] []
        []
      p47_spec_DrawRunPaused))
def p49_spec_DrawRunPaused : Plan := (.alt (.one 3 ⟨some 22, none, .call (.k (.fn n_spec_l20Rd_pick [] [])) [.t 21, .k (.i .i64 60)]⟩ [] []
        []
      p45_spec_DrawRunPaused) (.one 5 ⟨some 24, none, .bsl ty_int [.i .i64 0] 6 [(0, 1, .k (.i .i64 0)), (1, 1, .k (.i .i64 0)), (2, 1, .k (.i .i64 0)), (3, 1, .k (.i .i64 0)), (4, 1, .k (.i .i64 1)), (5, 1, .k (.i .i64 2))]⟩ [] []
        []
      p47_spec_DrawRunPaused))
def p50_spec_DrawRunPaused : Plan := (.alt (.one 3 ⟨some 22, none, .call (.k (.fn n_spec_l20Rd_pick [] [])) [.t 21, .k (.i .i64 60)]⟩ [] []
        []
      p46_spec_DrawRunPaused) (.alt (.one 5 ⟨some 24, none, .bsl ty_int [.i .i64 0] 6 [(0, 1, .k (.i .i64 0)), (1, 1, .k (.i .i64 0)), (2, 1, .k (.i .i64 0)), (3, 1, .k (.i .i64 0)), (4, 1, .k (.i .i64 1)), (5, 1, .k (.i .i64 2))]⟩ [] []
        []
      p48_spec_DrawRunPaused) (.one 15 ⟨some 34, none, .bsl ty_int [.i .i64 0] 6 [(0, 1, .k (.i .i64 0)), (1, 1, .k (.i .i64 0)), (2, 1, .k (.i .i64 0)), (3, 1, .k (.i .i64 0)), (4, 1, .k (.i .i64 1)), (5, 1, .k (.i .i64 2))]⟩ [] []
        []
      p49_spec_DrawRunPaused)))
def c_spec_DrawRunPaused : LC := .seq (.ops [⟨some 2, none, .mv (.k (.sn))⟩,
      ⟨some 3, none, .mv (.k (.sn))⟩,
      ⟨some 4, none, .mv (.k (.i .i64 0))⟩,
      ⟨some 5, none, .mv (.k (.i .i64 0))⟩])
    (.seq (.ops [⟨some 10, none, .mv (.t 0)⟩,
      ⟨some 11, none, .call (.k (.fn n_spec_DrawRunEdf [] [])) [.t 10]⟩,
      ⟨some 9, none, .mv (.t 11)⟩,
      ⟨some 12, none, .ext 0 (.t 9)⟩,
      ⟨some 13, none, .ext 1 (.t 9)⟩,
      ⟨some 6, none, .mv (.t 12)⟩,
      ⟨some 7, none, .mv (.t 13)⟩])
    (.seq (.ops [⟨some 14, none, .mv (.t 0)⟩,
      ⟨some 15, none, .call (.k (.fn n_spec_l20Open [] [])) [.t 14]⟩,
      ⟨some 8, none, .mv (.t 15)⟩])
    (.seq (.ops [⟨some 16, none, .mv (.t 8)⟩,
      ⟨some 17, none, .nilc (.t 16)⟩,
      ⟨some 18, none, .fa 1 (.t 17)⟩,
      ⟨none, none, .st 1 (.t 18) (.k (.i .i64 3))⟩])
    (.seq (.plan [0, 1, 2, 6, 12, 16] [⟨some 19, none, .mv (.t 6)⟩,
      ⟨some 20, none, .mv (.t 7)⟩,
      ⟨some 21, none, .mv (.t 8)⟩,
      ⟨some 25, none, .mv (.t 8)⟩,
      ⟨some 31, none, .mv (.t 8)⟩,
      ⟨some 35, none, .mv (.t 8)⟩]
      p50_spec_DrawRunPaused)
    (.ret)))))
theorem k_spec_DrawRunPaused : chkF Try.prog Try.f43 41 c_spec_DrawRunPaused [.t 2, .t 3, .t 4, .t 5] = true := by kernel_rfl
theorem call_spec_DrawRunPaused {args : List AV} {σ : List AB} {K : AV → List AB → Prop} (hn : args.length ≤ 41) (hw : wpC Try.prog σ.length 41 c_spec_DrawRunPaused (retP σ.length [.t 2, .t 3, .t 4, .t 5] K) ⟨initT 0 args, σ⟩) : CallWp Try.prog n_spec_DrawRunPaused args σ K := call_fn mixed Try.func43 k_spec_DrawRunPaused hn hw

end Go.Proofs.Ytdmoafmgeipenaa
