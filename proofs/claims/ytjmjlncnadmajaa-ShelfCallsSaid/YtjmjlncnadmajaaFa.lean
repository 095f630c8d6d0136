/-
  Parts of the proof: no statement of the seat is proved here.
-/
import Derived.Test.YtjmjlncnadmajaaEd
import Derived.Test.YtjmjlncnadmajaaProg
import Derived.KernelRfl
set_option linter.unusedSimpArgs false
set_option linter.unusedVariables false

set_option maxRecDepth 100000
namespace Go.Proofs.T
open Go Go.Hb
-- gosem.cut.init
def m2 : MC :=
  (.reg [.h (some 0) none (.call (.c (.fn (.func 1) [] [])) [])])
def r2 : List MR := []
theorem is2 : FnIs Try.prog 2 1 m2 r2 := ⟨by kernel_rfl, Try.f2, _, Try.func2, rfl, by decide, rfl, by kernel_rfl, by kernel_rfl⟩

-- hibernacle/hibernaclelaw36.ShelfLies
def m3 : MC :=
  (.seq
    (.reg [.h (some 3) none (.box (.t 0)),
      .l (some 6) false none (.mv (.c (.ff)))])
    (.seq
      (.seq
        (.reg [.l (some 20) false none (.load 2 true (.t 3)),
          .h (some 21) none (.call (.c (.fn (.func 8) [] [])) [.t 20]),
          .l (some 22) false none (.bin .gtr (.t 21) (.c (.i .i64 0))),
          .l (some 23) true none (.mv (.t 22)),
          .l (some 24) false (some (23, false)) (.mv (.t 2)),
          .l (some 25) false (some (23, false)) (.len true (.t 24)),
          .l (some 26) false (some (23, false)) (.bin .gtr (.t 25) (.c (.i .i64 500))),
          .l (some 27) false none (.pick (.t 23) (.c (.tt)) (.t 26)),
          .l (some 28) true none (.mv (.t 27)),
          .l (some 29) false (some (28, false)) (.load 2 true (.t 3)),
          .h (some 30) (some (28, false)) (.call (.c (.fn (.func 9) [] [])) [.t 29]),
          .l (some 31) false (some (28, false)) (.bin .neq (.t 30) (.c (.i .i64 0))),
          .l (some 32) false none (.pick (.t 28) (.c (.tt)) (.t 31)),
          .l (some 33) true none (.mv (.t 32)),
          .l (some 34) false (some (33, false)) (.mv (.t 1)),
          .h (some 35) (some (33, false)) (.call (.c (.fn (.func 10) [] [])) [.t 34]),
          .l (some 36) false (some (33, false)) (.un .not (.t 35)),
          .l (some 37) false none (.pick (.t 33) (.c (.tt)) (.t 36))])
        (.cond (.t 37)
          (.seq
            (.reg [.h (some 38) none (.call (.c (.fn (.func 11) [] [])) []),
              .l (some 6) false none (.mv (.t 38))])
            .ret)
          .skip))
      (.seq
        (.reg [.l (some 39) false none (.faddr 1 (.t 3)),
          .l (some 40) false none (.load 1 false (.t 39)),
          .l (some 41) false none (.len false (.t 40)),
          .l (some 7) false none (.mv (.t 41))])
        (.seq
          (.seq
            (.reg [.l (some 8) false none (.mv (.c (.i .i64 0)))])
            (.block 0
              (.loop
                (.seq
                  (.seq
                    (.reg [.l (some 42) false none (.mv (.t 8)),
                      .l (some 43) false none (.mv (.t 7)),
                      .l (some 44) false none (.bin .lss (.t 42) (.t 43))])
                    (.cond (.t 44)
                      .skip
                      (.exit 0)))
                  (.seq
                    (.block 1
                      (.seq
                        (.reg [.l (some 48) false none (.load 2 true (.t 3)),
                          .l (some 49) false none (.mv (.t 1)),
                          .h (some 50) none (.call (.c (.fn (.func 12) [] [])) [.t 48, .t 49]),
                          .l (some 47) false none (.mv (.t 50)),
                          .l (some 51) false none (.ext (.t 47) 0),
                          .l (some 52) false none (.ext (.t 47) 1),
                          .l (some 53) false none (.ext (.t 47) 2),
                          .h (some 9) none (.alloc [.nils, .nils]),
                          .h none none (.store 2 (.t 9) (.t 51)),
                          .l (some 10) false none (.mv (.t 52)),
                          .l (some 11) false none (.mv (.t 53))])
                        (.reg [.l (some 54) false none (.load 2 true (.t 9)),
                          .h none none (.store 2 (.t 3) (.t 54))])))
                    (.reg [.l (some 45) false none (.mv (.t 8)),
                      .l (some 46) false none (.bin .add (.t 45) (.c (.i .i64 1))),
                      .l (some 8) false none (.mv (.t 46))]))))))
          (.seq
            (.reg [.l (some 56) false none (.load 2 true (.t 3)),
              .l (some 57) false none (.mv (.t 1)),
              .l (some 58) false none (.mv (.t 2)),
              .h (some 59) none (.call (.c (.fn (.func 13) [] [])) [.t 56, .t 57, .t 58]),
              .l (some 55) false none (.mv (.t 59)),
              .l (some 60) false none (.ext (.t 55) 0),
              .l (some 61) false none (.ext (.t 55) 1),
              .h (some 12) none (.alloc [.nils, .nils]),
              .h none none (.store 2 (.t 12) (.t 60)),
              .l (some 13) false none (.mv (.t 61))])
            (.seq
              (.reg [.l (some 63) false none (.load 2 true (.t 12)),
                .l (some 64) false none (.mv (.t 1)),
                .h (some 65) none (.call (.c (.fn (.func 14) [] [])) [.t 63, .t 64]),
                .l (some 62) false none (.mv (.t 65)),
                .l (some 66) false none (.ext (.t 62) 0),
                .l (some 67) false none (.ext (.t 62) 1),
                .l (some 68) false none (.ext (.t 62) 2),
                .h (some 14) none (.alloc [.nils, .nils]),
                .h none none (.store 2 (.t 14) (.t 66)),
                .l (some 15) false none (.mv (.t 67)),
                .l (some 16) false none (.mv (.t 68))])
              (.seq
                (.reg [.l (some 70) false none (.load 2 true (.t 14)),
                  .l (some 71) false none (.mv (.t 1)),
                  .h (some 72) none (.call (.c (.fn (.func 12) [] [])) [.t 70, .t 71]),
                  .l (some 69) false none (.mv (.t 72)),
                  .l (some 73) false none (.ext (.t 69) 0),
                  .l (some 74) false none (.ext (.t 69) 1),
                  .l (some 75) false none (.ext (.t 69) 2),
                  .h (some 17) none (.alloc [.nils, .nils]),
                  .h none none (.store 2 (.t 17) (.t 73)),
                  .l (some 18) false none (.mv (.t 74)),
                  .l (some 19) false none (.mv (.t 75))])
                (.seq
                  (.reg [.l (some 76) false none (.faddr 1 (.t 3)),
                    .l (some 77) false none (.load 1 false (.t 76)),
                    .l (some 78) false none (.len false (.t 77)),
                    .l (some 79) false none (.bin .eql (.t 78) (.c (.i .i64 0))),
                    .l (some 80) true none (.mv (.t 79)),
                    .l (some 81) false (some (80, true)) (.mv (.t 13)),
                    .l (some 82) false (some (80, true)) (.bin .eql (.t 81) (.c (.i .i64 0))),
                    .l (some 83) false none (.pick (.t 80) (.t 82) (.c (.ff))),
                    .l (some 84) true none (.mv (.t 83)),
                    .l (some 85) false (some (84, true)) (.mv (.t 16)),
                    .l (some 86) false (some (84, true)) (.bin .eql (.t 85) (.c (.i .i64 0))),
                    .l (some 87) false none (.pick (.t 84) (.t 86) (.c (.ff))),
                    .l (some 88) true none (.mv (.t 87)),
                    .l (some 89) false (some (88, true)) (.mv (.t 15)),
                    .l (some 90) false (some (88, true)) (.len false (.t 89)),
                    .l (some 91) false (some (88, true)) (.bin .gtr (.t 90) (.c (.i .i64 0))),
                    .l (some 92) false none (.pick (.t 88) (.t 91) (.c (.ff))),
                    .l (some 93) true none (.mv (.t 92)),
                    .l (some 94) false (some (93, true)) (.mv (.t 15)),
                    .l (some 95) false (some (93, true)) (.iaddr 1 (.t 94) (.c (.i .i64 0))),
                    .l (some 96) false (some (93, true)) (.load 1 false (.t 95)),
                    .l (some 97) false (some (93, true)) (.mv (.t 1)),
                    .l (some 98) false (some (93, true)) (.bin .eql (.t 96) (.t 97)),
                    .l (some 99) false none (.pick (.t 93) (.t 98) (.c (.ff))),
                    .l (some 100) true none (.mv (.t 99)),
                    .l (some 101) false (some (100, true)) (.mv (.t 19)),
                    .l (some 102) false (some (100, true)) (.bin .eql (.t 101) (.c (.i .i64 0))),
                    .l (some 103) false none (.pick (.t 100) (.t 102) (.c (.ff))),
                    .l (some 104) true none (.mv (.t 103)),
                    .l (some 105) false (some (104, true)) (.mv (.t 18)),
                    .l (some 106) false (some (104, true)) (.mv (.t 2)),
                    .l (some 107) false (some (104, true)) (.bin .eql (.t 105) (.t 106)),
                    .l (some 108) false none (.pick (.t 104) (.t 107) (.c (.ff))),
                    .l (some 109) true none (.mv (.t 108)),
                    .h (some 110) (some (109, true)) (.call (.c (.fn (.func 11) [] [])) []),
                    .l (some 111) false none (.pick (.t 109) (.t 110) (.c (.ff))),
                    .l (some 6) false none (.mv (.t 111))])
                  .ret))))))))
def r3 : List MR := [.t 6]
theorem is3 : FnIs Try.prog 3 112 m3 r3 := ⟨by kernel_rfl, Try.f3, _, Try.func3, rfl, by decide, rfl, by kernel_rfl, by kernel_rfl⟩

-- hibernacle/hibernaclelaw36.ShelfHonest
def m4 : MC :=
  (.seq
    (.reg [.h (some 4) none (.box (.t 0)),
      .l (some 8) false none (.mv (.c (.ff)))])
    (.seq
      (.seq
        (.reg [.l (some 28) false none (.load 2 true (.t 4)),
          .h (some 29) none (.call (.c (.fn (.func 8) [] [])) [.t 28]),
          .l (some 30) false none (.bin .gtr (.t 29) (.c (.i .i64 0))),
          .l (some 31) true none (.mv (.t 30)),
          .l (some 32) false (some (31, false)) (.mv (.t 2)),
          .l (some 33) false (some (31, false)) (.len true (.t 32)),
          .l (some 34) false (some (31, false)) (.bin .gtr (.t 33) (.c (.i .i64 500))),
          .l (some 35) false none (.pick (.t 31) (.c (.tt)) (.t 34)),
          .l (some 36) true none (.mv (.t 35)),
          .l (some 37) false (some (36, false)) (.load 2 true (.t 4)),
          .h (some 38) (some (36, false)) (.call (.c (.fn (.func 9) [] [])) [.t 37]),
          .l (some 39) false (some (36, false)) (.bin .neq (.t 38) (.c (.i .i64 0))),
          .l (some 40) false none (.pick (.t 36) (.c (.tt)) (.t 39)),
          .l (some 41) true none (.mv (.t 40)),
          .l (some 42) false (some (41, false)) (.mv (.t 1)),
          .h (some 43) (some (41, false)) (.call (.c (.fn (.func 10) [] [])) [.t 42]),
          .l (some 44) false (some (41, false)) (.un .not (.t 43)),
          .l (some 45) false none (.pick (.t 41) (.c (.tt)) (.t 44)),
          .l (some 46) true none (.mv (.t 45)),
          .l (some 47) false (some (46, false)) (.mv (.t 3)),
          .h (some 48) (some (46, false)) (.call (.c (.fn (.func 10) [] [])) [.t 47]),
          .l (some 49) false (some (46, false)) (.un .not (.t 48)),
          .l (some 50) false none (.pick (.t 46) (.c (.tt)) (.t 49)),
          .l (some 51) true none (.mv (.t 50)),
          .l (some 52) false (some (51, false)) (.mv (.t 1)),
          .l (some 53) false (some (51, false)) (.mv (.t 3)),
          .l (some 54) false (some (51, false)) (.bin .eql (.t 52) (.t 53)),
          .l (some 55) false none (.pick (.t 51) (.c (.tt)) (.t 54))])
        (.cond (.t 55)
          (.seq
            (.reg [.h (some 56) none (.call (.c (.fn (.func 11) [] [])) []),
              .l (some 8) false none (.mv (.t 56))])
            .ret)
          .skip))
      (.seq
        (.reg [.l (some 57) false none (.load 2 true (.t 4)),
          .h (some 58) none (.call (.c (.fn (.func 15) [] [])) [.t 57]),
          .h none none (.store 2 (.t 4) (.t 58))])
        (.seq
          (.reg [.l (some 60) false none (.load 2 true (.t 4)),
            .l (some 61) false none (.mv (.t 3)),
            .h (some 62) none (.call (.c (.fn (.func 12) [] [])) [.t 60, .t 61]),
            .l (some 59) false none (.mv (.t 62)),
            .l (some 63) false none (.ext (.t 59) 0),
            .l (some 64) false none (.ext (.t 59) 1),
            .l (some 65) false none (.ext (.t 59) 2),
            .h (some 9) none (.alloc [.nils, .nils]),
            .h none none (.store 2 (.t 9) (.t 63)),
            .l (some 10) false none (.mv (.t 64)),
            .l (some 11) false none (.mv (.t 65))])
          (.seq
            (.reg [.l (some 67) false none (.load 2 true (.t 4)),
              .l (some 68) false none (.mv (.t 1)),
              .l (some 69) false none (.mv (.t 2)),
              .h (some 70) none (.call (.c (.fn (.func 13) [] [])) [.t 67, .t 68, .t 69]),
              .l (some 66) false none (.mv (.t 70)),
              .l (some 71) false none (.ext (.t 66) 0),
              .l (some 72) false none (.ext (.t 66) 1),
              .h (some 12) none (.alloc [.nils, .nils]),
              .h none none (.store 2 (.t 12) (.t 71)),
              .l (some 13) false none (.mv (.t 72))])
            (.seq
              (.reg [.l (some 74) false none (.load 2 true (.t 12)),
                .l (some 75) false none (.mv (.t 1)),
                .h (some 76) none (.call (.c (.fn (.func 12) [] [])) [.t 74, .t 75]),
                .l (some 73) false none (.mv (.t 76)),
                .l (some 77) false none (.ext (.t 73) 0),
                .l (some 78) false none (.ext (.t 73) 1),
                .l (some 79) false none (.ext (.t 73) 2),
                .h (some 14) none (.alloc [.nils, .nils]),
                .h none none (.store 2 (.t 14) (.t 77)),
                .l (some 15) false none (.mv (.t 78)),
                .l (some 16) false none (.mv (.t 79))])
              (.seq
                (.reg [.l (some 81) false none (.load 2 true (.t 12)),
                  .l (some 82) false none (.mv (.t 3)),
                  .h (some 83) none (.call (.c (.fn (.func 12) [] [])) [.t 81, .t 82]),
                  .l (some 80) false none (.mv (.t 83)),
                  .l (some 84) false none (.ext (.t 80) 0),
                  .l (some 85) false none (.ext (.t 80) 1),
                  .l (some 86) false none (.ext (.t 80) 2),
                  .h (some 17) none (.alloc [.nils, .nils]),
                  .h none none (.store 2 (.t 17) (.t 84)),
                  .l (some 18) false none (.mv (.t 85)),
                  .l (some 19) false none (.mv (.t 86))])
                (.seq
                  (.reg [.l (some 88) false none (.load 2 true (.t 12)),
                    .l (some 89) false none (.mv (.t 1)),
                    .h (some 90) none (.call (.c (.fn (.func 16) [] [])) [.t 88, .t 89]),
                    .l (some 87) false none (.mv (.t 90)),
                    .l (some 91) false none (.ext (.t 87) 0),
                    .l (some 92) false none (.ext (.t 87) 1),
                    .h (some 20) none (.alloc [.nils, .nils]),
                    .h none none (.store 2 (.t 20) (.t 91)),
                    .l (some 21) false none (.mv (.t 92))])
                  (.seq
                    (.reg [.l (some 94) false none (.load 2 true (.t 20)),
                      .l (some 95) false none (.mv (.t 1)),
                      .h (some 96) none (.call (.c (.fn (.func 12) [] [])) [.t 94, .t 95]),
                      .l (some 93) false none (.mv (.t 96)),
                      .l (some 97) false none (.ext (.t 93) 0),
                      .l (some 98) false none (.ext (.t 93) 1),
                      .l (some 99) false none (.ext (.t 93) 2),
                      .h (some 22) none (.alloc [.nils, .nils]),
                      .h none none (.store 2 (.t 22) (.t 97)),
                      .l (some 23) false none (.mv (.t 98)),
                      .l (some 24) false none (.mv (.t 99))])
                    (.seq
                      (.reg [.l (some 101) false none (.load 2 true (.t 20)),
                        .l (some 102) false none (.mv (.t 3)),
                        .h (some 103) none (.call (.c (.fn (.func 12) [] [])) [.t 101, .t 102]),
                        .l (some 100) false none (.mv (.t 103)),
                        .l (some 104) false none (.ext (.t 100) 0),
                        .l (some 105) false none (.ext (.t 100) 1),
                        .l (some 106) false none (.ext (.t 100) 2),
                        .h (some 25) none (.alloc [.nils, .nils]),
                        .h none none (.store 2 (.t 25) (.t 104)),
                        .l (some 26) false none (.mv (.t 105)),
                        .l (some 27) false none (.mv (.t 106))])
                      (.seq
                        (.reg [.l (some 107) false none (.mv (.t 13)),
                          .l (some 108) false none (.bin .eql (.t 107) (.c (.i .i64 0))),
                          .l (some 109) true none (.mv (.t 108)),
                          .l (some 110) false (some (109, true)) (.mv (.t 16)),
                          .l (some 111) false (some (109, true)) (.bin .eql (.t 110) (.c (.i .i64 0))),
                          .l (some 112) false none (.pick (.t 109) (.t 111) (.c (.ff))),
                          .l (some 113) true none (.mv (.t 112)),
                          .l (some 114) false (some (113, true)) (.mv (.t 15)),
                          .l (some 115) false (some (113, true)) (.mv (.t 2)),
                          .l (some 116) false (some (113, true)) (.bin .eql (.t 114) (.t 115)),
                          .l (some 117) false none (.pick (.t 113) (.t 116) (.c (.ff))),
                          .l (some 118) true none (.mv (.t 117)),
                          .l (some 119) false (some (118, true)) (.mv (.t 18)),
                          .l (some 120) false (some (118, true)) (.mv (.t 10)),
                          .l (some 121) false (some (118, true)) (.bin .eql (.t 119) (.t 120)),
                          .l (some 122) false none (.pick (.t 118) (.t 121) (.c (.ff))),
                          .l (some 123) true none (.mv (.t 122)),
                          .l (some 124) false (some (123, true)) (.mv (.t 19)),
                          .l (some 125) false (some (123, true)) (.mv (.t 11)),
                          .l (some 126) false (some (123, true)) (.bin .eql (.t 124) (.t 125)),
                          .l (some 127) false none (.pick (.t 123) (.t 126) (.c (.ff))),
                          .l (some 128) true none (.mv (.t 127)),
                          .l (some 129) false (some (128, true)) (.mv (.t 21)),
                          .l (some 130) false (some (128, true)) (.bin .eql (.t 129) (.c (.i .i64 0))),
                          .l (some 131) false none (.pick (.t 128) (.t 130) (.c (.ff))),
                          .l (some 132) true none (.mv (.t 131)),
                          .l (some 133) false (some (132, true)) (.mv (.t 23)),
                          .l (some 134) false (some (132, true)) (.bin .eql (.t 133) (.c (.s ⟨#[]⟩))),
                          .l (some 135) false none (.pick (.t 132) (.t 134) (.c (.ff))),
                          .l (some 136) true none (.mv (.t 135)),
                          .l (some 137) false (some (136, true)) (.mv (.t 24)),
                          .l (some 138) false (some (136, true)) (.bin .eql (.t 137) (.c (.i .i64 9))),
                          .l (some 139) false none (.pick (.t 136) (.t 138) (.c (.ff))),
                          .l (some 140) true none (.mv (.t 139)),
                          .l (some 141) false (some (140, true)) (.mv (.t 26)),
                          .l (some 142) false (some (140, true)) (.mv (.t 10)),
                          .l (some 143) false (some (140, true)) (.bin .eql (.t 141) (.t 142)),
                          .l (some 144) false none (.pick (.t 140) (.t 143) (.c (.ff))),
                          .l (some 145) true none (.mv (.t 144)),
                          .l (some 146) false (some (145, true)) (.mv (.t 27)),
                          .l (some 147) false (some (145, true)) (.mv (.t 11)),
                          .l (some 148) false (some (145, true)) (.bin .eql (.t 146) (.t 147)),
                          .l (some 149) false none (.pick (.t 145) (.t 148) (.c (.ff))),
                          .l (some 150) true none (.mv (.t 149)),
                          .h (some 151) (some (150, true)) (.call (.c (.fn (.func 11) [] [])) []),
                          .l (some 152) false none (.pick (.t 150) (.t 151) (.c (.ff))),
                          .l (some 8) false none (.mv (.t 152))])
                        .ret)))))))))))
def r4 : List MR := [.t 8]
theorem is4 : FnIs Try.prog 4 153 m4 r4 := ⟨by kernel_rfl, Try.f4, _, Try.func4, rfl, by decide, rfl, by kernel_rfl, by kernel_rfl⟩

-- hibernacle/hibernaclelaw36.ShelfChecks
def m5 : MC :=
  (.seq
    (.reg [.h (some 3) none (.box (.t 0)),
      .l (some 6) false none (.mv (.c (.ff)))])
    (.seq
      (.seq
        (.reg [.l (some 19) false none (.load 2 true (.t 3)),
          .h (some 20) none (.call (.c (.fn (.func 8) [] [])) [.t 19]),
          .l (some 21) false none (.bin .gtr (.t 20) (.c (.i .i64 0))),
          .l (some 22) true none (.mv (.t 21)),
          .l (some 23) false (some (22, false)) (.mv (.t 1)),
          .l (some 24) false (some (22, false)) (.len true (.t 23)),
          .l (some 25) false (some (22, false)) (.bin .gtr (.t 24) (.c (.i .i64 200))),
          .l (some 26) false none (.pick (.t 22) (.c (.tt)) (.t 25)),
          .l (some 27) true none (.mv (.t 26)),
          .l (some 28) false (some (27, false)) (.mv (.t 2)),
          .l (some 29) false (some (27, false)) (.len true (.t 28)),
          .l (some 30) false (some (27, false)) (.bin .gtr (.t 29) (.c (.i .i64 500))),
          .l (some 31) false none (.pick (.t 27) (.c (.tt)) (.t 30))])
        (.cond (.t 31)
          (.seq
            (.reg [.h (some 32) none (.call (.c (.fn (.func 11) [] [])) []),
              .l (some 6) false none (.mv (.t 32))])
            .ret)
          .skip))
      (.seq
        (.reg [.l (some 33) false none (.load 2 true (.t 3)),
          .h (some 34) none (.call (.c (.fn (.func 17) [] [])) [.t 33]),
          .l (some 7) false none (.mv (.t 34))])
        (.seq
          (.seq
            (.reg [.l (some 35) false none (.mv (.t 7)),
              .l (some 36) false none (.load 2 true (.t 3)),
              .h (some 37) none (.call (.c (.fn (.func 9) [] [])) [.t 36]),
              .l (some 38) false none (.bin .neq (.t 35) (.t 37))])
            (.cond (.t 38)
              (.seq
                (.reg [.l (some 6) false none (.mv (.c (.ff)))])
                .ret)
              .skip))
          (.seq
            (.seq
              (.reg [.l (some 39) false none (.mv (.t 7)),
                .l (some 40) false none (.bin .eql (.t 39) (.c (.i .i64 0)))])
              (.cond (.t 40)
                (.seq
                  (.reg [.h (some 41) none (.call (.c (.fn (.func 11) [] [])) []),
                    .l (some 6) false none (.mv (.t 41))])
                  .ret)
                .skip))
            (.seq
              (.reg [.l (some 43) false none (.load 2 true (.t 3)),
                .l (some 44) false none (.mv (.t 1)),
                .l (some 45) false none (.mv (.t 2)),
                .h (some 46) none (.call (.c (.fn (.func 13) [] [])) [.t 43, .t 44, .t 45]),
                .l (some 42) false none (.mv (.t 46)),
                .l (some 47) false none (.ext (.t 42) 0),
                .l (some 48) false none (.ext (.t 42) 1),
                .h (some 8) none (.alloc [.nils, .nils]),
                .h none none (.store 2 (.t 8) (.t 47)),
                .l (some 9) false none (.mv (.t 48))])
              (.seq
                (.reg [.l (some 50) false none (.load 2 true (.t 3)),
                  .l (some 51) false none (.mv (.t 1)),
                  .h (some 52) none (.call (.c (.fn (.func 12) [] [])) [.t 50, .t 51]),
                  .l (some 49) false none (.mv (.t 52)),
                  .l (some 53) false none (.ext (.t 49) 0),
                  .l (some 54) false none (.ext (.t 49) 1),
                  .l (some 55) false none (.ext (.t 49) 2),
                  .h (some 10) none (.alloc [.nils, .nils]),
                  .h none none (.store 2 (.t 10) (.t 53)),
                  .l (some 11) false none (.mv (.t 54)),
                  .l (some 12) false none (.mv (.t 55))])
                (.seq
                  (.reg [.l (some 57) false none (.load 2 true (.t 3)),
                    .l (some 58) false none (.mv (.t 1)),
                    .h (some 59) none (.call (.c (.fn (.func 16) [] [])) [.t 57, .t 58]),
                    .l (some 56) false none (.mv (.t 59)),
                    .l (some 60) false none (.ext (.t 56) 0),
                    .l (some 61) false none (.ext (.t 56) 1),
                    .h (some 13) none (.alloc [.nils, .nils]),
                    .h none none (.store 2 (.t 13) (.t 60)),
                    .l (some 14) false none (.mv (.t 61))])
                  (.seq
                    (.reg [.l (some 63) false none (.load 2 true (.t 3)),
                      .l (some 64) false none (.mv (.t 1)),
                      .h (some 65) none (.call (.c (.fn (.func 14) [] [])) [.t 63, .t 64]),
                      .l (some 62) false none (.mv (.t 65)),
                      .l (some 66) false none (.ext (.t 62) 0),
                      .l (some 67) false none (.ext (.t 62) 1),
                      .l (some 68) false none (.ext (.t 62) 2),
                      .h (some 15) none (.alloc [.nils, .nils]),
                      .h none none (.store 2 (.t 15) (.t 66)),
                      .l (some 16) false none (.mv (.t 67)),
                      .l (some 17) false none (.mv (.t 68))])
                    (.seq
                      (.reg [.l (some 69) false none (.load 2 true (.t 8)),
                        .l (some 70) false none (.load 2 true (.t 3)),
                        .h (some 71) none (.call (.c (.fn (.func 18) [] [])) [.t 69, .t 70]),
                        .l (some 72) true none (.mv (.t 71)),
                        .l (some 73) false (some (72, true)) (.load 2 true (.t 10)),
                        .l (some 74) false (some (72, true)) (.load 2 true (.t 3)),
                        .h (some 75) (some (72, true)) (.call (.c (.fn (.func 18) [] [])) [.t 73, .t 74]),
                        .l (some 76) false none (.pick (.t 72) (.t 75) (.c (.ff))),
                        .l (some 77) true none (.mv (.t 76)),
                        .l (some 78) false (some (77, true)) (.load 2 true (.t 13)),
                        .l (some 79) false (some (77, true)) (.load 2 true (.t 3)),
                        .h (some 80) (some (77, true)) (.call (.c (.fn (.func 18) [] [])) [.t 78, .t 79]),
                        .l (some 81) false none (.pick (.t 77) (.t 80) (.c (.ff))),
                        .l (some 82) true none (.mv (.t 81)),
                        .l (some 83) false (some (82, true)) (.load 2 true (.t 15)),
                        .l (some 84) false (some (82, true)) (.load 2 true (.t 3)),
                        .h (some 85) (some (82, true)) (.call (.c (.fn (.func 18) [] [])) [.t 83, .t 84]),
                        .l (some 86) false none (.pick (.t 82) (.t 85) (.c (.ff))),
                        .l (some 18) false none (.mv (.t 86))])
                      (.seq
                        (.reg [.l (some 87) false none (.mv (.t 18)),
                          .l (some 88) true none (.mv (.t 87)),
                          .l (some 89) false (some (88, true)) (.mv (.t 9)),
                          .l (some 90) false (some (88, true)) (.mv (.t 7)),
                          .l (some 91) false (some (88, true)) (.bin .eql (.t 89) (.t 90)),
                          .l (some 92) false none (.pick (.t 88) (.t 91) (.c (.ff))),
                          .l (some 93) true none (.mv (.t 92)),
                          .l (some 94) false (some (93, true)) (.mv (.t 12)),
                          .l (some 95) false (some (93, true)) (.mv (.t 7)),
                          .l (some 96) false (some (93, true)) (.bin .eql (.t 94) (.t 95)),
                          .l (some 97) false none (.pick (.t 93) (.t 96) (.c (.ff))),
                          .l (some 98) true none (.mv (.t 97)),
                          .l (some 99) false (some (98, true)) (.mv (.t 14)),
                          .l (some 100) false (some (98, true)) (.mv (.t 7)),
                          .l (some 101) false (some (98, true)) (.bin .eql (.t 99) (.t 100)),
                          .l (some 102) false none (.pick (.t 98) (.t 101) (.c (.ff))),
                          .l (some 103) true none (.mv (.t 102)),
                          .l (some 104) false (some (103, true)) (.mv (.t 17)),
                          .l (some 105) false (some (103, true)) (.mv (.t 7)),
                          .l (some 106) false (some (103, true)) (.bin .eql (.t 104) (.t 105)),
                          .l (some 107) false none (.pick (.t 103) (.t 106) (.c (.ff))),
                          .l (some 108) true none (.mv (.t 107)),
                          .l (some 109) false (some (108, true)) (.mv (.t 11)),
                          .l (some 110) false (some (108, true)) (.bin .eql (.t 109) (.c (.s ⟨#[]⟩))),
                          .l (some 111) false none (.pick (.t 108) (.t 110) (.c (.ff))),
                          .l (some 112) true none (.mv (.t 111)),
                          .l (some 113) false (some (112, true)) (.mv (.t 16)),
                          .l (some 114) false (some (112, true)) (.len false (.t 113)),
                          .l (some 115) false (some (112, true)) (.bin .eql (.t 114) (.c (.i .i64 0))),
                          .l (some 116) false none (.pick (.t 112) (.t 115) (.c (.ff))),
                          .l (some 117) true none (.mv (.t 116)),
                          .h (some 118) (some (117, true)) (.call (.c (.fn (.func 11) [] [])) []),
                          .l (some 119) false none (.pick (.t 117) (.t 118) (.c (.ff))),
                          .l (some 6) false none (.mv (.t 119))])
                        .ret)))))))))))
def r5 : List MR := [.t 6]
theorem is5 : FnIs Try.prog 5 120 m5 r5 := ⟨by kernel_rfl, Try.f5, _, Try.func5, rfl, by decide, rfl, by kernel_rfl, by kernel_rfl⟩

-- hibernacle/hibernaclelaw36.ShelfPlays
def m6 : MC :=
  (.seq
    (.reg [.h (some 2) none (.box (.t 0)),
      .l (some 4) false none (.mv (.c (.ff)))])
    (.seq
      (.seq
        (.reg [.l (some 16) false none (.load 2 true (.t 2)),
          .h (some 17) none (.call (.c (.fn (.func 8) [] [])) [.t 16]),
          .l (some 18) false none (.bin .gtr (.t 17) (.c (.i .i64 0))),
          .l (some 19) true none (.mv (.t 18)),
          .l (some 20) false (some (19, false)) (.mv (.t 1)),
          .h (some 21) (some (19, false)) (.call (.c (.fn (.func 19) [] [])) [.t 20]),
          .l (some 22) false none (.pick (.t 19) (.c (.tt)) (.t 21))])
        (.cond (.t 22)
          (.seq
            (.reg [.h (some 23) none (.call (.c (.fn (.func 11) [] [])) []),
              .l (some 4) false none (.mv (.t 23))])
            .ret)
          .skip))
      (.seq
        (.reg [.l (some 24) false none (.load 2 true (.t 2)),
          .h (some 5) none (.alloc [.nils, .nils]),
          .h none none (.store 2 (.t 5) (.t 24))])
        (.seq
          (.reg [.l (some 25) false none (.load 2 true (.t 2)),
            .h (some 26) none (.call (.c (.fn (.func 9) [] [])) [.t 25]),
            .l (some 27) false none (.bin .eql (.t 26) (.c (.i .i64 0))),
            .l (some 6) false none (.mv (.t 27))])
          (.seq
            (.seq
              (.reg [.l (some 7) false none (.mv (.c (.i .i64 0)))])
              (.block 0
                (.loop
                  (.seq
                    (.seq
                      (.reg [.l (some 28) false none (.mv (.t 7)),
                        .l (some 29) false none (.mv (.t 1)),
                        .l (some 30) false none (.len false (.t 29)),
                        .l (some 31) false none (.bin .lss (.t 28) (.t 30))])
                      (.cond (.t 31)
                        .skip
                        (.exit 0)))
                    (.seq
                      (.block 1
                        (.seq
                          (.reg [.l (some 34) false none (.mv (.t 1)),
                            .l (some 35) false none (.mv (.t 7)),
                            .l (some 36) false none (.iaddr 3 (.t 34) (.t 35)),
                            .l (some 37) false none (.load 3 true (.t 36)),
                            .h (some 8) none (.alloc [.i .i64 0, .s ⟨#[]⟩, .s ⟨#[]⟩]),
                            .h none none (.store 3 (.t 8) (.t 37))])
                          (.seq
                            (.reg [.l (some 9) false none (.mv (.c (.i .i64 0))),
                              .l (some 10) false none (.mv (.c (.i .i64 0)))])
                            (.seq
                              (.reg [.l (some 11) false none (.mv (.c (.s ⟨#[]⟩))),
                                .l (some 12) false none (.mv (.c (.s ⟨#[]⟩)))])
                              (.seq
                                (.reg [.h (some 38) none (.bslice 1 0 [.s ⟨#[]⟩] []),
                                  .h (some 39) none (.bslice 1 0 [.s ⟨#[]⟩] []),
                                  .l (some 13) false none (.mv (.t 38)),
                                  .l (some 14) false none (.mv (.t 39))])
                                (.seq
                                  (.seq
                                    (.reg [.l (some 40) false none (.faddr 0 (.t 8)),
                                      .l (some 41) false none (.load 1 false (.t 40))])
                                    (.block 2
                                      (.seq
                                        (.reg [.l (some 59) false none (.bin .eql (.t 41) (.c (.i .i64 0))),
                                          .l (some 58) false none (.mv (.t 59))])
                                        (.cond (.t 58)
                                          (.seq
                                            (.reg [.l (some 61) false none (.load 2 true (.t 2)),
                                              .l (some 62) false none (.faddr 1 (.t 8)),
                                              .l (some 63) false none (.load 1 false (.t 62)),
                                              .l (some 64) false none (.faddr 2 (.t 8)),
                                              .l (some 65) false none (.load 1 false (.t 64)),
                                              .h (some 66) none (.call (.c (.fn (.func 13) [] [])) [.t 61, .t 63, .t 65]),
                                              .l (some 60) false none (.mv (.t 66)),
                                              .l (some 67) false none (.ext (.t 60) 0),
                                              .l (some 68) false none (.ext (.t 60) 1),
                                              .h none none (.store 2 (.t 2) (.t 67)),
                                              .l (some 9) false none (.mv (.t 68))])
                                            (.reg [.l (some 70) false none (.load 2 true (.t 5)),
                                              .l (some 71) false none (.faddr 1 (.t 8)),
                                              .l (some 72) false none (.load 1 false (.t 71)),
                                              .l (some 73) false none (.faddr 2 (.t 8)),
                                              .l (some 74) false none (.load 1 false (.t 73)),
                                              .h (some 75) none (.call (.c (.fn (.func 20) [] [])) [.t 70, .t 72, .t 74]),
                                              .l (some 69) false none (.mv (.t 75)),
                                              .l (some 76) false none (.ext (.t 69) 0),
                                              .l (some 77) false none (.ext (.t 69) 1),
                                              .h none none (.store 2 (.t 5) (.t 76)),
                                              .l (some 10) false none (.mv (.t 77))]))
                                          (.seq
                                            (.reg [.l (some 79) false none (.bin .eql (.t 41) (.c (.i .i64 1))),
                                              .l (some 78) false none (.mv (.t 79))])
                                            (.cond (.t 78)
                                              (.seq
                                                (.reg [.l (some 81) false none (.load 2 true (.t 2)),
                                                  .l (some 82) false none (.faddr 1 (.t 8)),
                                                  .l (some 83) false none (.load 1 false (.t 82)),
                                                  .h (some 84) none (.call (.c (.fn (.func 12) [] [])) [.t 81, .t 83]),
                                                  .l (some 80) false none (.mv (.t 84)),
                                                  .l (some 85) false none (.ext (.t 80) 0),
                                                  .l (some 86) false none (.ext (.t 80) 1),
                                                  .l (some 87) false none (.ext (.t 80) 2),
                                                  .h none none (.store 2 (.t 2) (.t 85)),
                                                  .l (some 11) false none (.mv (.t 86)),
                                                  .l (some 9) false none (.mv (.t 87))])
                                                (.reg [.l (some 89) false none (.load 2 true (.t 5)),
                                                  .l (some 90) false none (.faddr 1 (.t 8)),
                                                  .l (some 91) false none (.load 1 false (.t 90)),
                                                  .h (some 92) none (.call (.c (.fn (.func 21) [] [])) [.t 89, .t 91]),
                                                  .l (some 88) false none (.mv (.t 92)),
                                                  .l (some 93) false none (.ext (.t 88) 0),
                                                  .l (some 94) false none (.ext (.t 88) 1),
                                                  .l (some 95) false none (.ext (.t 88) 2),
                                                  .h none none (.store 2 (.t 5) (.t 93)),
                                                  .l (some 12) false none (.mv (.t 94)),
                                                  .l (some 10) false none (.mv (.t 95))]))
                                              (.seq
                                                (.reg [.l (some 97) false none (.bin .eql (.t 41) (.c (.i .i64 2))),
                                                  .l (some 96) false none (.mv (.t 97))])
                                                (.cond (.t 96)
                                                  (.seq
                                                    (.reg [.l (some 99) false none (.load 2 true (.t 2)),
                                                      .l (some 100) false none (.faddr 1 (.t 8)),
                                                      .l (some 101) false none (.load 1 false (.t 100)),
                                                      .h (some 102) none (.call (.c (.fn (.func 16) [] [])) [.t 99, .t 101]),
                                                      .l (some 98) false none (.mv (.t 102)),
                                                      .l (some 103) false none (.ext (.t 98) 0),
                                                      .l (some 104) false none (.ext (.t 98) 1),
                                                      .h none none (.store 2 (.t 2) (.t 103)),
                                                      .l (some 9) false none (.mv (.t 104))])
                                                    (.reg [.l (some 106) false none (.load 2 true (.t 5)),
                                                      .l (some 107) false none (.faddr 1 (.t 8)),
                                                      .l (some 108) false none (.load 1 false (.t 107)),
                                                      .h (some 109) none (.call (.c (.fn (.func 22) [] [])) [.t 106, .t 108]),
                                                      .l (some 105) false none (.mv (.t 109)),
                                                      .l (some 110) false none (.ext (.t 105) 0),
                                                      .l (some 111) false none (.ext (.t 105) 1),
                                                      .h none none (.store 2 (.t 5) (.t 110)),
                                                      .l (some 10) false none (.mv (.t 111))]))
                                                  (.seq
                                                    (.reg [.l (some 43) false none (.load 2 true (.t 2)),
                                                      .l (some 44) false none (.faddr 1 (.t 8)),
                                                      .l (some 45) false none (.load 1 false (.t 44)),
                                                      .h (some 46) none (.call (.c (.fn (.func 14) [] [])) [.t 43, .t 45]),
                                                      .l (some 42) false none (.mv (.t 46)),
                                                      .l (some 47) false none (.ext (.t 42) 0),
                                                      .l (some 48) false none (.ext (.t 42) 1),
                                                      .l (some 49) false none (.ext (.t 42) 2),
                                                      .h none none (.store 2 (.t 2) (.t 47)),
                                                      .l (some 13) false none (.mv (.t 48)),
                                                      .l (some 9) false none (.mv (.t 49))])
                                                    (.reg [.l (some 51) false none (.load 2 true (.t 5)),
                                                      .l (some 52) false none (.faddr 1 (.t 8)),
                                                      .l (some 53) false none (.load 1 false (.t 52)),
                                                      .h (some 54) none (.call (.c (.fn (.func 23) [] [])) [.t 51, .t 53]),
                                                      .l (some 50) false none (.mv (.t 54)),
                                                      .l (some 55) false none (.ext (.t 50) 0),
                                                      .l (some 56) false none (.ext (.t 50) 1),
                                                      .l (some 57) false none (.ext (.t 50) 2),
                                                      .h none none (.store 2 (.t 5) (.t 55)),
                                                      .l (some 14) false none (.mv (.t 56)),
                                                      .l (some 10) false none (.mv (.t 57))]))))))))))
                                  (.seq
                                    (.seq
                                      (.reg [.l (some 112) false none (.mv (.t 9)),
                                        .l (some 113) false none (.mv (.t 10)),
                                        .l (some 114) false none (.bin .neq (.t 112) (.t 113)),
                                        .l (some 115) true none (.mv (.t 114)),
                                        .l (some 116) false (some (115, false)) (.mv (.t 11)),
                                        .l (some 117) false (some (115, false)) (.mv (.t 12)),
                                        .l (some 118) false (some (115, false)) (.bin .neq (.t 116) (.t 117)),
                                        .l (some 119) false none (.pick (.t 115) (.c (.tt)) (.t 118)),
                                        .l (some 120) true none (.mv (.t 119)),
                                        .l (some 121) false (some (120, false)) (.mv (.t 13)),
                                        .l (some 122) false (some (120, false)) (.len false (.t 121)),
                                        .l (some 123) false (some (120, false)) (.mv (.t 14)),
                                        .l (some 124) false (some (120, false)) (.len false (.t 123)),
                                        .l (some 125) false (some (120, false)) (.bin .neq (.t 122) (.t 124)),
                                        .l (some 126) false none (.pick (.t 120) (.c (.tt)) (.t 125)),
                                        .l (some 127) true none (.mv (.t 126)),
                                        .l (some 128) false (some (127, false)) (.load 2 true (.t 2)),
                                        .l (some 129) false (some (127, false)) (.load 2 true (.t 5)),
                                        .h (some 130) (some (127, false)) (.call (.c (.fn (.func 18) [] [])) [.t 128, .t 129]),
                                        .l (some 131) false (some (127, false)) (.un .not (.t 130)),
                                        .l (some 132) false none (.pick (.t 127) (.c (.tt)) (.t 131)),
                                        .l (some 133) true none (.mv (.t 132)),
                                        .l (some 134) false (some (133, false)) (.mv (.t 6)),
                                        .l (some 135) true (some (133, false)) (.mv (.t 134)),
                                        .l (some 136) false (some (135, true)) (.load 2 true (.t 2)),
                                        .h (some 137) (some (135, true)) (.call (.c (.fn (.func 17) [] [])) [.t 136]),
                                        .l (some 138) false (some (135, true)) (.bin .neq (.t 137) (.c (.i .i64 0))),
                                        .l (some 139) false (some (133, false)) (.pick (.t 135) (.t 138) (.c (.ff))),
                                        .l (some 140) false none (.pick (.t 133) (.c (.tt)) (.t 139))])
                                      (.cond (.t 140)
                                        (.seq
                                          (.reg [.l (some 4) false none (.mv (.c (.ff)))])
                                          .ret)
                                        .skip))
                                    (.seq
                                      (.reg [.l (some 15) false none (.mv (.c (.i .i64 0)))])
                                      (.block 3
                                        (.loop
                                          (.seq
                                            (.seq
                                              (.reg [.l (some 141) false none (.mv (.t 15)),
                                                .l (some 142) false none (.mv (.t 13)),
                                                .l (some 143) false none (.len false (.t 142)),
                                                .l (some 144) false none (.bin .lss (.t 141) (.t 143))])
                                              (.cond (.t 144)
                                                .skip
                                                (.exit 3)))
                                            (.seq
                                              (.block 4
                                                (.seq
                                                  (.dreg (.light 0 (.l (some 147) false none (.mv (.t 13))) <|
                                                    (.light 1 (.l (some 148) false none (.mv (.t 15))) <|
                                                    (.light 2 (.l (some 149) false none (.iaddr 1 (.t 147) (.t 148))) <|
                                                    (.light 3 (.l (some 150) false none (.load 1 false (.t 149))) <|
                                                    (.light 4 (.l (some 151) false none (.mv (.t 14))) <|
                                                    (.light 5 (.l (some 152) false none (.mv (.t 15))) <|
                                                    (.light 6 (.l (some 153) false none (.iaddr 1 (.t 151) (.t 152))) <|
                                                    (.light 7 (.l (some 154) false none (.load 1 false (.t 153))) <|
                                                    (.light 8 (.l (some 155) false none (.bin .neq (.t 150) (.t 154))) <|
                                                    .fin))))))))))
                                                  (.cond (.t 155)
                                                    (.seq
                                                      (.reg [.l (some 4) false none (.mv (.c (.ff)))])
                                                      .ret)
                                                    .skip)))
                                              (.reg [.l (some 145) false none (.mv (.t 15)),
                                                .l (some 146) false none (.bin .add (.t 145) (.c (.i .i64 1))),
                                                .l (some 15) false none (.mv (.t 146))])))))))))))))
                      (.reg [.l (some 32) false none (.mv (.t 7)),
                        .l (some 33) false none (.bin .add (.t 32) (.c (.i .i64 1))),
                        .l (some 7) false none (.mv (.t 33))]))))))
            (.seq
              (.reg [.h (some 156) none (.call (.c (.fn (.func 11) [] [])) []),
                .l (some 4) false none (.mv (.t 156))])
              .ret))))))
def r6 : List MR := [.t 4]
theorem is6 : FnIs Try.prog 6 157 m6 r6 := ⟨by kernel_rfl, Try.f6, _, Try.func6, rfl, by decide, rfl, by kernel_rfl, by kernel_rfl⟩

-- hibernacle/hibernaclelaw36.ShelfCalls
def m7 : MC :=
  (.seq
    (.reg [.h (some 3) none (.box (.t 0)),
      .l (some 6) false none (.mv (.c (.ff)))])
    (.seq
      (.seq
        (.reg [.l (some 16) false none (.load 2 true (.t 3)),
          .h (some 17) none (.call (.c (.fn (.func 8) [] [])) [.t 16]),
          .l (some 18) false none (.bin .gtr (.t 17) (.c (.i .i64 0))),
          .l (some 19) true none (.mv (.t 18)),
          .l (some 20) false (some (19, false)) (.mv (.t 1)),
          .h (some 21) (some (19, false)) (.call (.c (.fn (.func 19) [] [])) [.t 20]),
          .l (some 22) false none (.pick (.t 19) (.c (.tt)) (.t 21)),
          .l (some 23) true none (.mv (.t 22)),
          .l (some 24) false (some (23, false)) (.load 2 true (.t 3)),
          .h (some 25) (some (23, false)) (.call (.c (.fn (.func 9) [] [])) [.t 24]),
          .l (some 26) false (some (23, false)) (.bin .neq (.t 25) (.c (.i .i64 0))),
          .l (some 27) false none (.pick (.t 23) (.c (.tt)) (.t 26)),
          .l (some 28) true none (.mv (.t 27)),
          .l (some 29) false (some (28, false)) (.mv (.t 2)),
          .h (some 30) (some (28, false)) (.call (.c (.fn (.func 10) [] [])) [.t 29]),
          .l (some 31) false (some (28, false)) (.un .not (.t 30)),
          .l (some 32) false none (.pick (.t 28) (.c (.tt)) (.t 31))])
        (.cond (.t 32)
          (.seq
            (.reg [.h (some 33) none (.call (.c (.fn (.func 11) [] [])) []),
              .l (some 6) false none (.mv (.t 33))])
            .ret)
          .skip))
      (.seq
        (.reg [.l (some 35) false none (.load 2 true (.t 3)),
          .h (some 36) none (.call (.c (.fn (.func 15) [] [])) [.t 35]),
          .l (some 37) false none (.mv (.t 2)),
          .h (some 38) none (.call (.c (.fn (.func 12) [] [])) [.t 36, .t 37]),
          .l (some 34) false none (.mv (.t 38)),
          .l (some 39) false none (.ext (.t 34) 0),
          .l (some 40) false none (.ext (.t 34) 1),
          .l (some 41) false none (.ext (.t 34) 2),
          .h (some 7) none (.alloc [.nils, .nils]),
          .h none none (.store 2 (.t 7) (.t 39)),
          .l (some 8) false none (.mv (.t 40)),
          .l (some 9) false none (.mv (.t 41))])
        (.seq
          (.reg [.l (some 42) false none (.faddr 1 (.t 3)),
            .l (some 43) false none (.load 1 false (.t 42)),
            .l (some 44) false none (.len false (.t 43)),
            .l (some 10) false none (.mv (.t 44))])
          (.seq
            (.seq
              (.reg [.l (some 11) false none (.mv (.c (.i .i64 0)))])
              (.block 0
                (.loop
                  (.seq
                    (.seq
                      (.reg [.l (some 45) false none (.mv (.t 11)),
                        .l (some 46) false none (.mv (.t 1)),
                        .l (some 47) false none (.len false (.t 46)),
                        .l (some 48) false none (.bin .lss (.t 45) (.t 47))])
                      (.cond (.t 48)
                        .skip
                        (.exit 0)))
                    (.seq
                      (.block 1
                        (.seq
                          (.reg [.l (some 51) false none (.mv (.t 1)),
                            .l (some 52) false none (.mv (.t 11)),
                            .l (some 53) false none (.iaddr 3 (.t 51) (.t 52)),
                            .l (some 54) false none (.load 3 true (.t 53)),
                            .h (some 12) none (.alloc [.i .i64 0, .s ⟨#[]⟩, .s ⟨#[]⟩]),
                            .h none none (.store 3 (.t 12) (.t 54))])
                          (.seq
                            (.seq
                              (.reg [.l (some 55) false none (.faddr 1 (.t 12)),
                                .l (some 56) false none (.load 1 false (.t 55)),
                                .h (some 57) none (.call (.c (.fn (.func 10) [] [])) [.t 56]),
                                .l (some 58) false none (.un .not (.t 57)),
                                .l (some 59) true none (.mv (.t 58)),
                                .l (some 60) false (some (59, false)) (.faddr 1 (.t 12)),
                                .l (some 61) false (some (59, false)) (.load 1 false (.t 60)),
                                .l (some 62) false (some (59, false)) (.mv (.t 2)),
                                .l (some 63) false (some (59, false)) (.bin .eql (.t 61) (.t 62)),
                                .l (some 64) false none (.pick (.t 59) (.c (.tt)) (.t 63))])
                              (.cond (.t 64)
                                (.exit 1)
                                .skip))
                            (.seq
                              (.seq
                                (.reg [.l (some 65) false none (.faddr 0 (.t 12)),
                                  .l (some 66) false none (.load 1 false (.t 65))])
                                (.block 2
                                  (.seq
                                    (.reg [.l (some 76) false none (.bin .eql (.t 66) (.c (.i .i64 0))),
                                      .l (some 75) false none (.mv (.t 76))])
                                    (.cond (.t 75)
                                      (.reg [.l (some 78) false none (.load 2 true (.t 3)),
                                        .l (some 79) false none (.faddr 1 (.t 12)),
                                        .l (some 80) false none (.load 1 false (.t 79)),
                                        .l (some 81) false none (.faddr 2 (.t 12)),
                                        .l (some 82) false none (.load 1 false (.t 81)),
                                        .h (some 83) none (.call (.c (.fn (.func 13) [] [])) [.t 78, .t 80, .t 82]),
                                        .l (some 77) false none (.mv (.t 83)),
                                        .l (some 84) false none (.ext (.t 77) 0),
                                        .l (some 85) false none (.ext (.t 77) 1),
                                        .h none none (.store 2 (.t 3) (.t 84))])
                                      (.seq
                                        (.reg [.l (some 87) false none (.bin .eql (.t 66) (.c (.i .i64 1))),
                                          .l (some 86) false none (.mv (.t 87))])
                                        (.cond (.t 86)
                                          (.reg [.l (some 89) false none (.load 2 true (.t 3)),
                                            .l (some 90) false none (.faddr 1 (.t 12)),
                                            .l (some 91) false none (.load 1 false (.t 90)),
                                            .h (some 92) none (.call (.c (.fn (.func 12) [] [])) [.t 89, .t 91]),
                                            .l (some 88) false none (.mv (.t 92)),
                                            .l (some 93) false none (.ext (.t 88) 0),
                                            .l (some 94) false none (.ext (.t 88) 1),
                                            .l (some 95) false none (.ext (.t 88) 2),
                                            .h none none (.store 2 (.t 3) (.t 93))])
                                          (.seq
                                            (.reg [.l (some 97) false none (.bin .eql (.t 66) (.c (.i .i64 2))),
                                              .l (some 96) false none (.mv (.t 97))])
                                            (.cond (.t 96)
                                              (.reg [.l (some 99) false none (.load 2 true (.t 3)),
                                                .l (some 100) false none (.faddr 1 (.t 12)),
                                                .l (some 101) false none (.load 1 false (.t 100)),
                                                .h (some 102) none (.call (.c (.fn (.func 16) [] [])) [.t 99, .t 101]),
                                                .l (some 98) false none (.mv (.t 102)),
                                                .l (some 103) false none (.ext (.t 98) 0),
                                                .l (some 104) false none (.ext (.t 98) 1),
                                                .h none none (.store 2 (.t 3) (.t 103))])
                                              (.reg [.l (some 68) false none (.load 2 true (.t 3)),
                                                .l (some 69) false none (.faddr 1 (.t 12)),
                                                .l (some 70) false none (.load 1 false (.t 69)),
                                                .h (some 71) none (.call (.c (.fn (.func 14) [] [])) [.t 68, .t 70]),
                                                .l (some 67) false none (.mv (.t 71)),
                                                .l (some 72) false none (.ext (.t 67) 0),
                                                .l (some 73) false none (.ext (.t 67) 1),
                                                .l (some 74) false none (.ext (.t 67) 2),
                                                .h none none (.store 2 (.t 3) (.t 72))])))))))))
                              (.seq
                                (.reg [.l (some 105) false none (.mv (.t 10)),
                                  .l (some 106) false none (.bin .sub (.t 105) (.c (.i .i64 1))),
                                  .l (some 107) false none (.mm true (.t 106) (.c (.i .i64 0))),
                                  .l (some 10) false none (.mv (.t 107))])
                                (.seq
                                  (.reg [.l (some 108) false none (.faddr 1 (.t 3)),
                                    .l (some 109) false none (.load 1 false (.t 108)),
                                    .l (some 110) false none (.len false (.t 109)),
                                    .l (some 111) false none (.mv (.t 10)),
                                    .l (some 112) false none (.bin .neq (.t 110) (.t 111))])
                                  (.cond (.t 112)
                                    (.seq
                                      (.reg [.l (some 6) false none (.mv (.c (.ff)))])
                                      .ret)
                                    .skip)))))))
                      (.reg [.l (some 49) false none (.mv (.t 11)),
                        .l (some 50) false none (.bin .add (.t 49) (.c (.i .i64 1))),
                        .l (some 11) false none (.mv (.t 50))]))))))
            (.seq
              (.reg [.l (some 114) false none (.load 2 true (.t 3)),
                .h (some 115) none (.call (.c (.fn (.func 15) [] [])) [.t 114]),
                .l (some 116) false none (.mv (.t 2)),
                .h (some 117) none (.call (.c (.fn (.func 12) [] [])) [.t 115, .t 116]),
                .l (some 113) false none (.mv (.t 117)),
                .l (some 118) false none (.ext (.t 113) 0),
                .l (some 119) false none (.ext (.t 113) 1),
                .l (some 120) false none (.ext (.t 113) 2),
                .h (some 13) none (.alloc [.nils, .nils]),
                .h none none (.store 2 (.t 13) (.t 118)),
                .l (some 14) false none (.mv (.t 119)),
                .l (some 15) false none (.mv (.t 120))])
              (.seq
                (.reg [.l (some 121) false none (.mv (.t 14)),
                  .l (some 122) false none (.mv (.t 8)),
                  .l (some 123) false none (.bin .eql (.t 121) (.t 122)),
                  .l (some 124) true none (.mv (.t 123)),
                  .l (some 125) false (some (124, true)) (.mv (.t 15)),
                  .l (some 126) false (some (124, true)) (.mv (.t 9)),
                  .l (some 127) false (some (124, true)) (.bin .eql (.t 125) (.t 126)),
                  .l (some 128) false none (.pick (.t 124) (.t 127) (.c (.ff))),
                  .l (some 129) true none (.mv (.t 128)),
                  .h (some 130) (some (129, true)) (.call (.c (.fn (.func 11) [] [])) []),
                  .l (some 131) false none (.pick (.t 129) (.t 130) (.c (.ff))),
                  .l (some 6) false none (.mv (.t 131))])
                .ret)))))))
def r7 : List MR := [.t 6]
theorem is7 : FnIs Try.prog 7 132 m7 r7 := ⟨by kernel_rfl, Try.f7, _, Try.func7, rfl, by decide, rfl, by kernel_rfl, by kernel_rfl⟩

-- hibernacle/hibernacleref36.Great
def m8 : MC :=
  (.seq
    (.reg [.h (some 1) none (.box (.t 0)),
      .l (some 2) false none (.mv (.c (.i .i64 0)))])
    (.seq
      (.seq
        (.reg [.l (some 4) false none (.faddr 0 (.t 1)),
          .l (some 5) false none (.load 1 false (.t 4)),
          .l (some 6) false none (.len false (.t 5)),
          .l (some 7) false none (.bin .gtr (.t 6) (.c (.i .i64 30))),
          .l (some 8) true none (.mv (.t 7)),
          .l (some 9) false (some (8, false)) (.faddr 1 (.t 1)),
          .l (some 10) false (some (8, false)) (.load 1 false (.t 9)),
          .l (some 11) false (some (8, false)) (.len false (.t 10)),
          .l (some 12) false (some (8, false)) (.bin .gtr (.t 11) (.c (.i .i64 100))),
          .l (some 13) false none (.pick (.t 8) (.c (.tt)) (.t 12))])
        (.cond (.t 13)
          (.seq
            (.reg [.l (some 2) false none (.mv (.c (.i .i64 1)))])
            .ret)
          .skip))
      (.seq
        (.seq
          (.reg [.l (some 14) false none (.faddr 0 (.t 1)),
            .l (some 15) false none (.load 1 false (.t 14)),
            .l (some 16) false none (.len false (.t 15)),
            .l (some 17) false none (.mv (.c (.i .i64 0)))])
          (.block 0
            (.loop
              (.seq
                (.reg [.l (some 18) false none (.bin .lss (.t 17) (.t 16))])
                (.seq
                  (.cond (.t 18)
                    .skip
                    (.exit 0))
                  (.seq
                    (.block 1
                      (.seq
                        (.reg [.l (some 19) false none (.mv (.t 17)),
                          .l (some 3) false none (.mv (.t 19))])
                        (.seq
                          (.reg [.l (some 20) false none (.faddr 0 (.t 1)),
                            .l (some 21) false none (.load 1 false (.t 20)),
                            .l (some 22) false none (.mv (.t 3)),
                            .l (some 23) false none (.iaddr 4 (.t 21) (.t 22)),
                            .l (some 24) false none (.faddr 0 (.t 23)),
                            .l (some 25) false none (.load 1 false (.t 24)),
                            .l (some 26) false none (.len true (.t 25)),
                            .l (some 27) false none (.bin .gtr (.t 26) (.c (.i .i64 200))),
                            .l (some 28) true none (.mv (.t 27)),
                            .l (some 29) false (some (28, false)) (.faddr 0 (.t 1)),
                            .l (some 30) false (some (28, false)) (.load 1 false (.t 29)),
                            .l (some 31) false (some (28, false)) (.mv (.t 3)),
                            .l (some 32) false (some (28, false)) (.iaddr 4 (.t 30) (.t 31)),
                            .l (some 33) false (some (28, false)) (.faddr 1 (.t 32)),
                            .l (some 34) false (some (28, false)) (.load 1 false (.t 33)),
                            .l (some 35) false (some (28, false)) (.len true (.t 34)),
                            .l (some 36) false (some (28, false)) (.bin .gtr (.t 35) (.c (.i .i64 500))),
                            .l (some 37) false none (.pick (.t 28) (.c (.tt)) (.t 36)),
                            .l (some 38) true none (.mv (.t 37)),
                            .l (some 39) false (some (38, false)) (.faddr 0 (.t 1)),
                            .l (some 40) false (some (38, false)) (.load 1 false (.t 39)),
                            .l (some 41) false (some (38, false)) (.mv (.t 3)),
                            .l (some 42) false (some (38, false)) (.iaddr 4 (.t 40) (.t 41)),
                            .l (some 43) false (some (38, false)) (.faddr 2 (.t 42)),
                            .l (some 44) false (some (38, false)) (.load 1 false (.t 43)),
                            .l (some 45) false (some (38, false)) (.len true (.t 44)),
                            .l (some 46) false (some (38, false)) (.bin .gtr (.t 45) (.c (.i .i64 500))),
                            .l (some 47) false none (.pick (.t 38) (.c (.tt)) (.t 46))])
                          (.cond (.t 47)
                            (.seq
                              (.reg [.l (some 2) false none (.mv (.c (.i .i64 1)))])
                              .ret)
                            .skip))))
                    (.reg [.l (some 48) false none (.bin .add (.t 17) (.c (.i .i64 1))),
                      .l (some 17) false none (.mv (.t 48))])))))))
        (.seq
          (.reg [.l (some 2) false none (.mv (.c (.i .i64 0)))])
          .ret))))
def r8 : List MR := [.t 2]
theorem is8 : FnIs Try.prog 8 49 m8 r8 := ⟨by kernel_rfl, Try.f8, _, Try.func8, rfl, by decide, rfl, by kernel_rfl, by kernel_rfl⟩

-- hibernacle/hibernacleref36.Check
def m9 : MC :=
  (.seq
    (.reg [.h (some 1) none (.box (.t 0)),
      .l (some 2) false none (.mv (.c (.i .i64 0)))])
    (.seq
      (.seq
        (.reg [.l (some 5) false none (.faddr 0 (.t 1)),
          .l (some 6) false none (.load 1 false (.t 5)),
          .l (some 7) false none (.len false (.t 6)),
          .l (some 8) false none (.mv (.c (.i .i64 0)))])
        (.block 0
          (.loop
            (.seq
              (.reg [.l (some 9) false none (.bin .lss (.t 8) (.t 7))])
              (.seq
                (.cond (.t 9)
                  .skip
                  (.exit 0))
                (.seq
                  (.block 1
                    (.seq
                      (.reg [.l (some 10) false none (.mv (.t 8)),
                        .l (some 3) false none (.mv (.t 10))])
                      (.seq
                        (.reg [.l (some 11) false none (.faddr 0 (.t 1)),
                          .l (some 12) false none (.load 1 false (.t 11)),
                          .l (some 13) false none (.mv (.t 3)),
                          .l (some 14) false none (.iaddr 4 (.t 12) (.t 13)),
                          .l (some 15) false none (.load 4 true (.t 14)),
                          .h (some 4) none (.alloc [.s ⟨#[]⟩, .s ⟨#[]⟩, .s ⟨#[]⟩, .ff]),
                          .h none none (.store 4 (.t 4) (.t 15))])
                        (.seq
                          (.seq
                            (.reg [.l (some 16) false none (.faddr 0 (.t 4)),
                              .l (some 17) false none (.load 1 false (.t 16)),
                              .h (some 18) none (.call (.c (.fn (.func 10) [] [])) [.t 17]),
                              .l (some 19) false none (.un .not (.t 18))])
                            (.cond (.t 19)
                              (.seq
                                (.reg [.l (some 2) false none (.mv (.c (.i .i64 7)))])
                                .ret)
                              .skip))
                          (.seq
                            (.seq
                              (.dreg (.light 0 (.l (some 20) false none (.mv (.t 3))) <|
                                (.light 1 (.l (some 21) false none (.bin .gtr (.t 20) (.c (.i .i64 0)))) <|
                                (.light 2 (.l (some 22) true none (.mv (.t 21))) <|
                                (.light 3 (.l (some 23) false (some (22, true)) (.faddr 0 (.t 4))) <|
                                (.light 4 (.l (some 24) false (some (22, true)) (.load 1 false (.t 23))) <|
                                (.light 5 (.l (some 25) false (some (22, true)) (.faddr 0 (.t 1))) <|
                                (.light 6 (.l (some 26) false (some (22, true)) (.load 1 false (.t 25))) <|
                                (.light 7 (.l (some 27) false (some (22, true)) (.mv (.t 3))) <|
                                (.light 8 (.l (some 28) false (some (22, true)) (.bin .sub (.t 27) (.c (.i .i64 1)))) <|
                                (.light 9 (.l (some 29) false (some (22, true)) (.iaddr 4 (.t 26) (.t 28))) <|
                                (.light 10 (.l (some 30) false (some (22, true)) (.faddr 0 (.t 29))) <|
                                (.light 11 (.l (some 31) false (some (22, true)) (.load 1 false (.t 30))) <|
                                (.light 12 (.l (some 32) false (some (22, true)) (.bin .eql (.t 24) (.t 31))) <|
                                (.light 13 (.l (some 33) false none (.pick (.t 22) (.t 32) (.c (.ff)))) <|
                                .fin)))))))))))))))
                              (.cond (.t 33)
                                (.seq
                                  (.reg [.l (some 2) false none (.mv (.c (.i .i64 8)))])
                                  .ret)
                                .skip))
                            (.seq
                              (.seq
                                (.dreg (.light 0 (.l (some 34) false none (.mv (.t 3))) <|
                                  (.light 1 (.l (some 35) false none (.bin .gtr (.t 34) (.c (.i .i64 0)))) <|
                                  (.light 2 (.l (some 36) true none (.mv (.t 35))) <|
                                  (.light 3 (.l (some 37) false (some (36, true)) (.faddr 0 (.t 4))) <|
                                  (.light 4 (.l (some 38) false (some (36, true)) (.load 1 false (.t 37))) <|
                                  (.light 5 (.l (some 39) false (some (36, true)) (.faddr 0 (.t 1))) <|
                                  (.light 6 (.l (some 40) false (some (36, true)) (.load 1 false (.t 39))) <|
                                  (.light 7 (.l (some 41) false (some (36, true)) (.mv (.t 3))) <|
                                  (.light 8 (.l (some 42) false (some (36, true)) (.bin .sub (.t 41) (.c (.i .i64 1)))) <|
                                  (.light 9 (.l (some 43) false (some (36, true)) (.iaddr 4 (.t 40) (.t 42))) <|
                                  (.light 10 (.l (some 44) false (some (36, true)) (.faddr 0 (.t 43))) <|
                                  (.light 11 (.l (some 45) false (some (36, true)) (.load 1 false (.t 44))) <|
                                  (.light 12 (.l (some 46) false (some (36, true)) (.bin .lss (.t 38) (.t 45))) <|
                                  (.light 13 (.l (some 47) false none (.pick (.t 36) (.t 46) (.c (.ff)))) <|
                                  .fin)))))))))))))))
                                (.cond (.t 47)
                                  (.seq
                                    (.reg [.l (some 2) false none (.mv (.c (.i .i64 2)))])
                                    .ret)
                                  .skip))
                              (.seq
                                (.seq
                                  (.reg [.l (some 48) false none (.faddr 1 (.t 4)),
                                    .l (some 49) false none (.load 1 false (.t 48)),
                                    .l (some 50) false none (.len true (.t 49)),
                                    .l (some 51) false none (.bin .gtr (.t 50) (.c (.i .i64 65536))),
                                    .l (some 52) true none (.mv (.t 51)),
                                    .l (some 53) false (some (52, false)) (.faddr 2 (.t 4)),
                                    .l (some 54) false (some (52, false)) (.load 1 false (.t 53)),
                                    .l (some 55) false (some (52, false)) (.len true (.t 54)),
                                    .l (some 56) false (some (52, false)) (.bin .gtr (.t 55) (.c (.i .i64 65536))),
                                    .l (some 57) false none (.pick (.t 52) (.c (.tt)) (.t 56))])
                                  (.cond (.t 57)
                                    (.seq
                                      (.reg [.l (some 2) false none (.mv (.c (.i .i64 6)))])
                                      .ret)
                                    .skip))
                                (.seq
                                  (.reg [.l (some 58) false none (.faddr 3 (.t 4)),
                                    .l (some 59) false none (.load 1 false (.t 58)),
                                    .l (some 60) false none (.un .not (.t 59)),
                                    .l (some 61) true none (.mv (.t 60)),
                                    .l (some 62) false (some (61, true)) (.faddr 2 (.t 4)),
                                    .l (some 63) false (some (61, true)) (.load 1 false (.t 62)),
                                    .l (some 64) false (some (61, true)) (.bin .neq (.t 63) (.c (.s ⟨#[]⟩))),
                                    .l (some 65) false none (.pick (.t 61) (.t 64) (.c (.ff)))])
                                  (.cond (.t 65)
                                    (.seq
                                      (.reg [.l (some 2) false none (.mv (.c (.i .i64 3)))])
                                      .ret)
                                    .skip)))))))))
                  (.reg [.l (some 66) false none (.bin .add (.t 8) (.c (.i .i64 1))),
                    .l (some 8) false none (.mv (.t 66))])))))))
      (.seq
        (.reg [.l (some 2) false none (.mv (.c (.i .i64 0)))])
        .ret)))
def r9 : List MR := [.t 2]
theorem is9 : FnIs Try.prog 9 67 m9 r9 := ⟨by kernel_rfl, Try.f9, _, Try.func9, rfl, by decide, rfl, by kernel_rfl, by kernel_rfl⟩

-- hibernacle/hibernacleref36.Name
def m10 : MC :=
  (.seq
    (.reg [.l (some 2) false none (.mv (.c (.ff)))])
    (.seq
      (.reg [.l (some 3) false none (.mv (.t 0)),
        .l (some 4) false none (.len true (.t 3)),
        .l (some 5) false none (.bin .geq (.t 4) (.c (.i .i64 1))),
        .l (some 6) true none (.mv (.t 5)),
        .l (some 7) false (some (6, true)) (.mv (.t 0)),
        .l (some 8) false (some (6, true)) (.len true (.t 7)),
        .l (some 9) false (some (6, true)) (.bin .leq (.t 8) (.c (.i .i64 100))),
        .l (some 10) false none (.pick (.t 6) (.t 9) (.c (.ff))),
        .l (some 2) false none (.mv (.t 10))])
      .ret))
def r10 : List MR := [.t 2]
theorem is10 : FnIs Try.prog 10 11 m10 r10 := ⟨by kernel_rfl, Try.f10, _, Try.func10, rfl, by decide, rfl, by kernel_rfl, by kernel_rfl⟩

-- hibernacle/hibernaclelaw36.awake
def m11 : MC :=
  (.seq
    (.reg [.l (some 0) false none (.mv (.c (.ff)))])
    (.seq
      (.reg [.h (some 7) none (.bslice 1 3 [.i .i64 0] [(0, 1, .c (.i .i64 0)), (1, 1, .c (.i .i64 0)), (2, 1, .c (.i .i64 3))]),
        .l (some 8) false none (.build [.nils, .nils] [(1, 1, .t 7)]),
        .h (some 9) none (.call (.c (.fn (.func 13) [] [])) [.t 8, .c (.s ⟨#[120]⟩), .c (.s ⟨#[97]⟩)]),
        .l (some 6) false none (.mv (.t 9)),
        .l (some 10) false none (.ext (.t 6) 0),
        .l (some 11) false none (.ext (.t 6) 1),
        .h (some 1) none (.alloc [.nils, .nils]),
        .h none none (.store 2 (.t 1) (.t 10)),
        .l (some 2) false none (.mv (.t 11))])
      (.seq
        (.reg [.l (some 13) false none (.load 2 true (.t 1)),
          .h (some 14) none (.call (.c (.fn (.func 13) [] [])) [.t 13, .c (.s ⟨#[120]⟩), .c (.s ⟨#[98]⟩)]),
          .l (some 12) false none (.mv (.t 14)),
          .l (some 15) false none (.ext (.t 12) 0),
          .l (some 16) false none (.ext (.t 12) 1),
          .h none none (.store 2 (.t 1) (.t 15)),
          .l (some 3) false none (.mv (.t 16))])
        (.seq
          (.reg [.l (some 18) false none (.load 2 true (.t 1)),
            .h (some 19) none (.call (.c (.fn (.func 12) [] [])) [.t 18, .c (.s ⟨#[120]⟩)]),
            .l (some 17) false none (.mv (.t 19)),
            .l (some 20) false none (.ext (.t 17) 0),
            .l (some 21) false none (.ext (.t 17) 1),
            .l (some 22) false none (.ext (.t 17) 2),
            .h none none (.store 2 (.t 1) (.t 20)),
            .l (some 4) false none (.mv (.t 21)),
            .l (some 5) false none (.mv (.t 22))])
          (.seq
            (.reg [.l (some 23) false none (.mv (.t 2)),
              .l (some 24) false none (.bin .eql (.t 23) (.c (.i .i64 0))),
              .l (some 25) true none (.mv (.t 24)),
              .l (some 26) false (some (25, true)) (.mv (.t 3)),
              .l (some 27) false (some (25, true)) (.bin .eql (.t 26) (.c (.i .i64 0))),
              .l (some 28) false none (.pick (.t 25) (.t 27) (.c (.ff))),
              .l (some 29) true none (.mv (.t 28)),
              .l (some 30) false (some (29, true)) (.mv (.t 5)),
              .l (some 31) false (some (29, true)) (.bin .eql (.t 30) (.c (.i .i64 0))),
              .l (some 32) false none (.pick (.t 29) (.t 31) (.c (.ff))),
              .l (some 33) true none (.mv (.t 32)),
              .l (some 34) false (some (33, true)) (.mv (.t 4)),
              .l (some 35) false (some (33, true)) (.bin .eql (.t 34) (.c (.s ⟨#[97]⟩))),
              .l (some 36) false none (.pick (.t 33) (.t 35) (.c (.ff))),
              .l (some 37) true none (.mv (.t 36)),
              .l (some 38) false (some (37, true)) (.faddr 1 (.t 1)),
              .l (some 39) false (some (37, true)) (.load 1 false (.t 38)),
              .l (some 40) false (some (37, true)) (.len false (.t 39)),
              .l (some 41) false (some (37, true)) (.bin .eql (.t 40) (.c (.i .i64 0))),
              .l (some 42) false none (.pick (.t 37) (.t 41) (.c (.ff))),
              .l (some 0) false none (.mv (.t 42))])
            .ret)))))
def r11 : List MR := [.t 0]
theorem is11 : FnIs Try.prog 11 43 m11 r11 := ⟨by kernel_rfl, Try.f11, _, Try.func11, rfl, by decide, rfl, by kernel_rfl, by kernel_rfl⟩

-- hibernacle/shelf.Get
def m12 : MC :=
  (.seq
    (.reg [.h (some 2) none (.box (.t 0)),
      .h (some 4) none (.alloc [.nils, .nils]),
      .l (some 5) false none (.mv (.c (.s ⟨#[]⟩))),
      .l (some 6) false none (.mv (.c (.i .i64 0)))])
    (.seq
      (.seq
        (.reg [.l (some 12) false none (.load 2 true (.t 2)),
          .h (some 13) none (.call (.c (.fn (.func 17) [] [])) [.t 12]),
          .l (some 7) false none (.mv (.t 13))])
        (.seq
          (.reg [.l (some 14) false none (.mv (.t 7)),
            .l (some 15) false none (.bin .neq (.t 14) (.c (.i .i64 0)))])
          (.cond (.t 15)
            (.seq
              (.reg [.l (some 16) false none (.load 2 true (.t 2)),
                .h (some 17) none (.call (.c (.fn (.func 24) [] [])) [.t 16]),
                .l (some 18) false none (.mv (.t 7)),
                .h none none (.store 2 (.t 4) (.t 17)),
                .l (some 5) false none (.mv (.c (.s ⟨#[]⟩))),
                .l (some 6) false none (.mv (.t 18))])
              .ret)
            .skip)))
      (.seq
        (.seq
          (.reg [.l (some 19) false none (.mv (.t 1)),
            .h (some 20) none (.call (.c (.fn (.func 25) [] [])) [.t 19]),
            .l (some 21) false none (.un .not (.t 20))])
          (.cond (.t 21)
            (.seq
              (.reg [.l (some 22) false none (.load 2 true (.t 2)),
                .h (some 23) none (.call (.c (.fn (.func 24) [] [])) [.t 22]),
                .h none none (.store 2 (.t 4) (.t 23)),
                .l (some 5) false none (.mv (.c (.s ⟨#[]⟩))),
                .l (some 6) false none (.mv (.c (.i .i64 7)))])
              .ret)
            .skip))
        (.seq
          (.reg [.l (some 25) false none (.load 2 true (.t 2)),
            .h (some 26) none (.call (.c (.fn (.func 26) [] [])) [.t 25]),
            .l (some 24) false none (.mv (.t 26)),
            .l (some 27) false none (.ext (.t 24) 0),
            .l (some 28) false none (.ext (.t 24) 1),
            .h (some 8) none (.alloc [.nils, .nils]),
            .h none none (.store 2 (.t 8) (.t 27)),
            .l (some 9) false none (.mv (.t 28))])
          (.seq
            (.reg [.l (some 30) false none (.load 2 true (.t 8)),
              .l (some 31) false none (.mv (.t 1)),
              .h (some 32) none (.call (.c (.fn (.func 27) [] [])) [.t 30, .t 31]),
              .l (some 29) false none (.mv (.t 32)),
              .l (some 33) false none (.ext (.t 29) 0),
              .l (some 34) false none (.ext (.t 29) 1),
              .l (some 10) false none (.mv (.t 33)),
              .l (some 11) false none (.mv (.t 34))])
            (.seq
              (.block 0
                (.seq
                  (.reg [.l (some 36) false none (.mv (.t 9)),
                    .l (some 37) false none (.bin .eql (.t 36) (.c (.i .i64 4))),
                    .l (some 35) false none (.mv (.t 37))])
                  (.cond (.t 35)
                    (.seq
                      (.reg [.l (some 38) false none (.load 2 true (.t 8)),
                        .h none none (.store 2 (.t 4) (.t 38)),
                        .l (some 5) false none (.mv (.c (.s ⟨#[]⟩))),
                        .l (some 6) false none (.mv (.c (.i .i64 17)))])
                      .ret)
                    (.seq
                      (.reg [.l (some 40) false none (.mv (.t 9)),
                        .l (some 41) false none (.bin .eql (.t 40) (.c (.i .i64 1))),
                        .l (some 42) true none (.mv (.t 41)),
                        .l (some 43) false (some (42, false)) (.mv (.t 11)),
                        .l (some 44) false (some (42, false)) (.un .not (.t 43)),
                        .l (some 45) false none (.pick (.t 42) (.c (.tt)) (.t 44)),
                        .l (some 46) true none (.mv (.t 45)),
                        .l (some 47) false (some (46, false)) (.mv (.t 9)),
                        .l (some 48) false (some (46, false)) (.bin .eql (.t 47) (.c (.i .i64 3))),
                        .l (some 49) true (some (46, false)) (.mv (.t 48)),
                        .l (some 50) false (some (49, true)) (.faddr 0 (.t 8)),
                        .l (some 51) false (some (49, true)) (.load 1 false (.t 50)),
                        .l (some 52) false (some (49, true)) (.mv (.t 10)),
                        .l (some 53) false (some (49, true)) (.iaddr 4 (.t 51) (.t 52)),
                        .l (some 54) false (some (49, true)) (.faddr 3 (.t 53)),
                        .l (some 55) false (some (49, true)) (.load 1 false (.t 54)),
                        .l (some 56) false (some (49, true)) (.un .not (.t 55)),
                        .l (some 57) false (some (46, false)) (.pick (.t 49) (.t 56) (.c (.ff))),
                        .l (some 58) false none (.pick (.t 46) (.c (.tt)) (.t 57)),
                        .l (some 39) false none (.mv (.t 58))])
                      (.cond (.t 39)
                        (.seq
                          (.reg [.l (some 59) false none (.load 2 true (.t 8)),
                            .h none none (.store 2 (.t 4) (.t 59)),
                            .l (some 5) false none (.mv (.c (.s ⟨#[]⟩))),
                            .l (some 6) false none (.mv (.c (.i .i64 9)))])
                          .ret)
                        (.seq
                          (.reg [.l (some 61) false none (.mv (.t 9)),
                            .l (some 62) false none (.bin .eql (.t 61) (.c (.i .i64 3))),
                            .l (some 60) false none (.mv (.t 62))])
                          (.cond (.t 60)
                            (.seq
                              (.dreg (.light 0 (.l (some 63) false none (.load 2 true (.t 8))) <|
                                (.light 1 (.l (some 64) false none (.faddr 0 (.t 8))) <|
                                (.light 2 (.l (some 65) false none (.load 1 false (.t 64))) <|
                                (.light 3 (.l (some 66) false none (.mv (.t 10))) <|
                                (.light 4 (.l (some 67) false none (.iaddr 4 (.t 65) (.t 66))) <|
                                (.light 5 (.l (some 68) false none (.faddr 2 (.t 67))) <|
                                (.light 6 (.l (some 69) false none (.load 1 false (.t 68))) <|
                                (.heavy 7 [1, 2, 3, 4, 5, 6] (.h none none (.store 2 (.t 4) (.t 63)))
                                (.light 8 (.l (some 5) false none (.mv (.t 69))) <|
                                (.light 9 (.l (some 6) false none (.mv (.c (.i .i64 0)))) <|
                                .fin))
                                .nil)))))))))
                              .ret)
                            (.seq
                              (.reg [.l (some 71) false none (.mv (.t 9)),
                                .l (some 72) false none (.bin .eql (.t 71) (.c (.i .i64 2))),
                                .l (some 70) false none (.mv (.t 72))])
                              (.cond (.t 70)
                                (.seq
                                  (.dreg (.light 0 (.l (some 73) false none (.load 2 true (.t 8))) <|
                                    (.light 1 (.l (some 74) false none (.faddr 0 (.t 8))) <|
                                    (.light 2 (.l (some 75) false none (.load 1 false (.t 74))) <|
                                    (.light 3 (.l (some 76) false none (.mv (.t 10))) <|
                                    (.light 4 (.l (some 77) false none (.iaddr 4 (.t 75) (.t 76))) <|
                                    (.light 5 (.l (some 78) false none (.faddr 1 (.t 77))) <|
                                    (.light 6 (.l (some 79) false none (.load 1 false (.t 78))) <|
                                    (.heavy 7 [0] (.h (some 80) none (.call (.c (.fn (.func 28) [] [])) [.t 79]))
                                    (.heavy 8 [] (.h none none (.store 2 (.t 4) (.t 73)))
                                    (.light 9 (.l (some 5) false none (.mv (.t 80))) <|
                                    (.light 10 (.l (some 6) false none (.mv (.c (.i .i64 0)))) <|
                                    .fin))
                                    .nil)
                                    .nil)))))))))
                                  .ret)
                                .skip)))))))))
              (.seq
                (.dreg (.light 0 (.l (some 81) false none (.load 2 true (.t 8))) <|
                  (.light 1 (.l (some 82) false none (.faddr 0 (.t 8))) <|
                  (.light 2 (.l (some 83) false none (.load 1 false (.t 82))) <|
                  (.light 3 (.l (some 84) false none (.mv (.t 10))) <|
                  (.light 4 (.l (some 85) false none (.iaddr 4 (.t 83) (.t 84))) <|
                  (.light 5 (.l (some 86) false none (.faddr 1 (.t 85))) <|
                  (.light 6 (.l (some 87) false none (.load 1 false (.t 86))) <|
                  (.heavy 7 [1, 2, 3, 4, 5, 6] (.h none none (.store 2 (.t 4) (.t 81)))
                  (.light 8 (.l (some 5) false none (.mv (.t 87))) <|
                  (.light 9 (.l (some 6) false none (.mv (.c (.i .i64 0)))) <|
                  .fin))
                  .nil)))))))))
                .ret)))))))
def r12 : List MR := [.cell 4 2 true, .t 5, .t 6]
theorem is12 : FnIs Try.prog 12 88 m12 r12 := ⟨by kernel_rfl, Try.f12, _, Try.func12, rfl, by decide, rfl, by kernel_rfl, by kernel_rfl⟩

-- hibernacle/shelf.Put
def m13 : MC :=
  (.seq
    (.reg [.h (some 3) none (.box (.t 0)),
      .h (some 6) none (.alloc [.nils, .nils]),
      .l (some 7) false none (.mv (.c (.i .i64 0)))])
    (.seq
      (.seq
        (.reg [.l (some 14) false none (.load 2 true (.t 3)),
          .h (some 15) none (.call (.c (.fn (.func 17) [] [])) [.t 14]),
          .l (some 8) false none (.mv (.t 15))])
        (.seq
          (.reg [.l (some 16) false none (.mv (.t 8)),
            .l (some 17) false none (.bin .neq (.t 16) (.c (.i .i64 0)))])
          (.cond (.t 17)
            (.seq
              (.reg [.l (some 18) false none (.load 2 true (.t 3)),
                .h (some 19) none (.call (.c (.fn (.func 24) [] [])) [.t 18]),
                .l (some 20) false none (.mv (.t 8)),
                .h none none (.store 2 (.t 6) (.t 19)),
                .l (some 7) false none (.mv (.t 20))])
              .ret)
            .skip)))
      (.seq
        (.seq
          (.reg [.l (some 21) false none (.mv (.t 1)),
            .h (some 22) none (.call (.c (.fn (.func 25) [] [])) [.t 21]),
            .l (some 23) false none (.un .not (.t 22))])
          (.cond (.t 23)
            (.seq
              (.reg [.l (some 24) false none (.load 2 true (.t 3)),
                .h (some 25) none (.call (.c (.fn (.func 24) [] [])) [.t 24]),
                .h none none (.store 2 (.t 6) (.t 25)),
                .l (some 7) false none (.mv (.c (.i .i64 7)))])
              .ret)
            .skip))
        (.seq
          (.seq
            (.reg [.l (some 26) false none (.mv (.t 2)),
              .l (some 27) false none (.len true (.t 26)),
              .l (some 28) false none (.bin .gtr (.t 27) (.c (.i .i64 65536)))])
            (.cond (.t 28)
              (.seq
                (.reg [.l (some 29) false none (.load 2 true (.t 3)),
                  .h (some 30) none (.call (.c (.fn (.func 24) [] [])) [.t 29]),
                  .h none none (.store 2 (.t 6) (.t 30)),
                  .l (some 7) false none (.mv (.c (.i .i64 6)))])
                .ret)
              .skip))
          (.seq
            (.reg [.l (some 32) false none (.load 2 true (.t 3)),
              .h (some 33) none (.call (.c (.fn (.func 26) [] [])) [.t 32]),
              .l (some 31) false none (.mv (.t 33)),
              .l (some 34) false none (.ext (.t 31) 0),
              .l (some 35) false none (.ext (.t 31) 1),
              .h (some 9) none (.alloc [.nils, .nils]),
              .h none none (.store 2 (.t 9) (.t 34)),
              .l (some 10) false none (.mv (.t 35))])
            (.seq
              (.seq
                (.reg [.l (some 36) false none (.mv (.t 10))])
                (.block 0
                  (.seq
                    (.block 4
                      (.seq
                        (.block 3
                          (.seq
                            (.block 2
                              (.seq
                                (.block 1
                                  (.seq
                                    (.seq
                                      (.seq
                                        (.reg [.l (some 38) false none (.bin .eql (.t 36) (.c (.i .i64 4))),
                                          .l (some 37) false none (.mv (.t 38))])
                                        (.cond (.t 37)
                                          (.exit 1)
                                          .skip))
                                      (.seq
                                        (.seq
                                          (.seq
                                            (.reg [.l (some 40) false none (.bin .eql (.t 36) (.c (.i .i64 1))),
                                              .l (some 39) false none (.mv (.t 40))])
                                            (.cond (.t 39)
                                              .skip
                                              (.reg [.l (some 41) false none (.bin .eql (.t 36) (.c (.i .i64 3))),
                                                .l (some 39) false none (.mv (.t 41))])))
                                          (.cond (.t 39)
                                            (.exit 2)
                                            .skip))
                                        (.seq
                                          (.reg [.l (some 43) false none (.bin .eql (.t 36) (.c (.i .i64 2))),
                                            .l (some 42) false none (.mv (.t 43))])
                                          (.cond (.t 42)
                                            (.exit 3)
                                            .skip))))
                                    (.exit 4)))
                                (.seq
                                  (.seq
                                    (.reg [.l (some 44) false none (.load 2 true (.t 9)),
                                      .h none none (.store 2 (.t 6) (.t 44)),
                                      .l (some 7) false none (.mv (.c (.i .i64 17)))])
                                    .ret)
                                  (.exit 0))))
                            (.seq
                              (.seq
                                (.reg [.l (some 45) false none (.load 2 true (.t 9)),
                                  .h none none (.store 2 (.t 6) (.t 45)),
                                  .l (some 7) false none (.mv (.c (.i .i64 0)))])
                                .ret)
                              (.exit 0))))
                        (.reg [.l (some 46) false none (.mv (.t 2)),
                          .h (some 47) none (.call (.c (.fn (.func 28) [] [])) [.t 46]),
                          .l (some 2) false none (.mv (.t 47))])))
                    (.seq
                      (.seq
                        (.reg [.l (some 48) false none (.mv (.t 1)),
                          .l (some 49) false none (.mv (.t 2)),
                          .l (some 50) false none (.build [.s ⟨#[]⟩, .s ⟨#[]⟩, .s ⟨#[]⟩, .ff] [(0, 1, .t 48), (1, 1, .t 49)]),
                          .h (some 11) none (.alloc [.s ⟨#[]⟩, .s ⟨#[]⟩, .s ⟨#[]⟩, .ff]),
                          .h none none (.store 4 (.t 11) (.t 50))])
                        (.seq
                          (.reg [.l (some 52) false none (.load 2 true (.t 9)),
                            .l (some 53) false none (.mv (.t 1)),
                            .h (some 54) none (.call (.c (.fn (.func 27) [] [])) [.t 52, .t 53]),
                            .l (some 51) false none (.mv (.t 54)),
                            .l (some 55) false none (.ext (.t 51) 0),
                            .l (some 56) false none (.ext (.t 51) 1),
                            .l (some 12) false none (.mv (.t 55)),
                            .l (some 13) false none (.mv (.t 56))])
                          (.seq
                            (.reg [.l (some 57) false none (.mv (.t 13))])
                            (.cond (.t 57)
                              (.seq
                                (.reg [.l (some 58) false none (.faddr 0 (.t 9)),
                                  .l (some 59) false none (.load 1 false (.t 58)),
                                  .l (some 60) false none (.mv (.t 12)),
                                  .l (some 61) false none (.iaddr 4 (.t 59) (.t 60)),
                                  .l (some 62) false none (.faddr 1 (.t 61)),
                                  .l (some 63) false none (.load 1 false (.t 62)),
                                  .l (some 64) false none (.faddr 2 (.t 11)),
                                  .h none none (.store 1 (.t 64) (.t 63)),
                                  .l (some 65) false none (.faddr 3 (.t 11)),
                                  .h none none (.store 1 (.t 65) (.c (.tt)))])
                                (.reg [.l (some 66) false none (.faddr 0 (.t 9)),
                                  .l (some 67) false none (.load 1 false (.t 66)),
                                  .l (some 68) false none (.mv (.t 12)),
                                  .l (some 69) false none (.load 4 true (.t 11)),
                                  .l (some 70) false none (.iaddr 4 (.t 67) (.t 68)),
                                  .h none none (.store 4 (.t 70) (.t 69))]))
                              (.reg [.l (some 71) false none (.faddr 0 (.t 9)),
                                .l (some 72) false none (.load 1 false (.t 71)),
                                .l (some 73) false none (.mv (.t 12)),
                                .l (some 74) false none (.load 4 true (.t 11)),
                                .h (some 75) none (.bslice 4 1 [.s ⟨#[]⟩, .s ⟨#[]⟩, .s ⟨#[]⟩, .ff] [(0, 4, .t 74)]),
                                .h (some 76) none (.call (.c (.fn (.func 29) [] [])) [.t 72, .t 73, .t 75]),
                                .l (some 77) false none (.faddr 0 (.t 9)),
                                .h none none (.store 1 (.t 77) (.t 76))])))))
                      (.exit 0)))))
              (.seq
                (.reg [.l (some 78) false none (.load 2 true (.t 9)),
                  .h none none (.store 2 (.t 6) (.t 78)),
                  .l (some 7) false none (.mv (.c (.i .i64 0)))])
                .ret)))))))
def r13 : List MR := [.cell 6 2 true, .t 7]
theorem is13 : FnIs Try.prog 13 79 m13 r13 := ⟨by kernel_rfl, Try.f13, _, Try.func13, rfl, by decide, rfl, by kernel_rfl, by kernel_rfl⟩

-- hibernacle/shelf.Names
def m14 : MC :=
  (.seq
    (.reg [.h (some 2) none (.box (.t 0)),
      .h (some 4) none (.alloc [.nils, .nils]),
      .l (some 5) false none (.mv (.c (.nils))),
      .l (some 6) false none (.mv (.c (.i .i64 0)))])
    (.seq
      (.seq
        (.reg [.l (some 13) false none (.load 2 true (.t 2)),
          .h (some 14) none (.call (.c (.fn (.func 17) [] [])) [.t 13]),
          .l (some 7) false none (.mv (.t 14))])
        (.seq
          (.reg [.l (some 15) false none (.mv (.t 7)),
            .l (some 16) false none (.bin .neq (.t 15) (.c (.i .i64 0)))])
          (.cond (.t 16)
            (.seq
              (.reg [.l (some 17) false none (.load 2 true (.t 2)),
                .h (some 18) none (.call (.c (.fn (.func 24) [] [])) [.t 17]),
                .l (some 19) false none (.mv (.t 7)),
                .h none none (.store 2 (.t 4) (.t 18)),
                .l (some 5) false none (.mv (.c (.nils))),
                .l (some 6) false none (.mv (.t 19))])
              .ret)
            .skip)))
      (.seq
        (.reg [.l (some 21) false none (.load 2 true (.t 2)),
          .h (some 22) none (.call (.c (.fn (.func 26) [] [])) [.t 21]),
          .l (some 20) false none (.mv (.t 22)),
          .l (some 23) false none (.ext (.t 20) 0),
          .l (some 24) false none (.ext (.t 20) 1),
          .h (some 8) none (.alloc [.nils, .nils]),
          .h none none (.store 2 (.t 8) (.t 23)),
          .l (some 9) false none (.mv (.t 24))])
        (.seq
          (.seq
            (.reg [.l (some 25) false none (.mv (.t 9))])
            (.block 0
              (.seq
                (.reg [.l (some 27) false none (.bin .eql (.t 25) (.c (.i .i64 4))),
                  .l (some 26) false none (.mv (.t 27))])
                (.cond (.t 26)
                  (.seq
                    (.reg [.l (some 28) false none (.load 2 true (.t 8)),
                      .h none none (.store 2 (.t 4) (.t 28)),
                      .l (some 5) false none (.mv (.c (.nils))),
                      .l (some 6) false none (.mv (.c (.i .i64 17)))])
                    .ret)
                  (.seq
                    (.reg [.l (some 30) false none (.bin .eql (.t 25) (.c (.i .i64 1))),
                      .l (some 29) false none (.mv (.t 30))])
                    (.cond (.t 29)
                      (.seq
                        (.reg [.l (some 31) false none (.load 2 true (.t 8)),
                          .h none none (.store 2 (.t 4) (.t 31)),
                          .l (some 5) false none (.mv (.c (.nils))),
                          .l (some 6) false none (.mv (.c (.i .i64 0)))])
                        .ret)
                      .skip))))))
          (.seq
            (.reg [.l (some 10) false none (.mv (.c (.nils)))])
            (.seq
              (.seq
                (.reg [.l (some 32) false none (.faddr 0 (.t 8)),
                  .l (some 33) false none (.load 1 false (.t 32)),
                  .l (some 34) false none (.len false (.t 33)),
                  .l (some 35) false none (.mv (.c (.i .i64 0)))])
                (.block 1
                  (.loop
                    (.seq
                      (.reg [.l (some 36) false none (.bin .lss (.t 35) (.t 34))])
                      (.seq
                        (.cond (.t 36)
                          .skip
                          (.exit 1))
                        (.seq
                          (.block 2
                            (.seq
                              (.reg [.l (some 37) false none (.iaddr 4 (.t 33) (.t 35)),
                                .l (some 38) false none (.load 4 true (.t 37)),
                                .h (some 12) none (.alloc [.s ⟨#[]⟩, .s ⟨#[]⟩, .s ⟨#[]⟩, .ff]),
                                .h none none (.store 4 (.t 12) (.t 38))])
                              (.seq
                                (.reg [.l (some 39) false none (.faddr 0 (.t 12)),
                                  .l (some 40) false none (.load 1 false (.t 39)),
                                  .l (some 41) false none (.mv (.t 1)),
                                  .h (some 42) none (.call (.c (.fn (.func 30) [] [])) [.t 40, .t 41]),
                                  .l (some 43) true none (.mv (.t 42)),
                                  .l (some 44) false (some (43, true)) (.mv (.t 9)),
                                  .l (some 45) false (some (43, true)) (.bin .neq (.t 44) (.c (.i .i64 3))),
                                  .l (some 46) true (some (43, true)) (.mv (.t 45)),
                                  .l (some 47) false (some (46, false)) (.faddr 3 (.t 12)),
                                  .l (some 48) false (some (46, false)) (.load 1 false (.t 47)),
                                  .l (some 49) false (some (43, true)) (.pick (.t 46) (.c (.tt)) (.t 48)),
                                  .l (some 50) false none (.pick (.t 43) (.t 49) (.c (.ff)))])
                                (.cond (.t 50)
                                  (.reg [.l (some 51) false none (.mv (.t 10)),
                                    .l (some 52) false none (.faddr 0 (.t 12)),
                                    .l (some 53) false none (.load 1 false (.t 52)),
                                    .h (some 54) none (.bslice 1 1 [.s ⟨#[]⟩] [(0, 1, .t 53)]),
                                    .h (some 55) none (.app 1 16 (.t 51) (.t 54)),
                                    .l (some 10) false none (.mv (.t 55))])
                                  .skip))))
                          (.reg [.l (some 56) false none (.bin .add (.t 35) (.c (.i .i64 1))),
                            .l (some 35) false none (.mv (.t 56))])))))))
              (.seq
                (.reg [.l (some 57) false none (.load 2 true (.t 8)),
                  .l (some 58) false none (.mv (.t 10)),
                  .h none none (.store 2 (.t 4) (.t 57)),
                  .l (some 5) false none (.mv (.t 58)),
                  .l (some 6) false none (.mv (.c (.i .i64 0)))])
                .ret)))))))
def r14 : List MR := [.cell 4 2 true, .t 5, .t 6]
theorem is14 : FnIs Try.prog 14 59 m14 r14 := ⟨by kernel_rfl, Try.f14, _, Try.func14, rfl, by decide, rfl, by kernel_rfl, by kernel_rfl⟩

-- hibernacle/hibernaclelaw36.honest
def m15 : MC :=
  (.seq
    (.reg [.h (some 1) none (.box (.t 0)),
      .h (some 2) none (.alloc [.nils, .nils])])
    (.seq
      (.reg [.h (some 3) none (.bslice 1 0 [.i .i64 0] []),
        .l (some 4) false none (.faddr 1 (.t 1)),
        .h none none (.store 1 (.t 4) (.t 3))])
      (.seq
        (.reg [.l (some 5) false none (.load 2 true (.t 1)),
          .h none none (.store 2 (.t 2) (.t 5))])
        .ret)))
def r15 : List MR := [.cell 2 2 true]
theorem is15 : FnIs Try.prog 15 6 m15 r15 := ⟨by kernel_rfl, Try.f15, _, Try.func15, rfl, by decide, rfl, by kernel_rfl, by kernel_rfl⟩

-- hibernacle/shelf.Drop
def m16 : MC :=
  (.seq
    (.reg [.h (some 2) none (.box (.t 0)),
      .h (some 4) none (.alloc [.nils, .nils]),
      .l (some 5) false none (.mv (.c (.i .i64 0)))])
    (.seq
      (.seq
        (.reg [.l (some 11) false none (.load 2 true (.t 2)),
          .h (some 12) none (.call (.c (.fn (.func 17) [] [])) [.t 11]),
          .l (some 6) false none (.mv (.t 12))])
        (.seq
          (.reg [.l (some 13) false none (.mv (.t 6)),
            .l (some 14) false none (.bin .neq (.t 13) (.c (.i .i64 0)))])
          (.cond (.t 14)
            (.seq
              (.reg [.l (some 15) false none (.load 2 true (.t 2)),
                .h (some 16) none (.call (.c (.fn (.func 24) [] [])) [.t 15]),
                .l (some 17) false none (.mv (.t 6)),
                .h none none (.store 2 (.t 4) (.t 16)),
                .l (some 5) false none (.mv (.t 17))])
              .ret)
            .skip)))
      (.seq
        (.seq
          (.reg [.l (some 18) false none (.mv (.t 1)),
            .h (some 19) none (.call (.c (.fn (.func 25) [] [])) [.t 18]),
            .l (some 20) false none (.un .not (.t 19))])
          (.cond (.t 20)
            (.seq
              (.reg [.l (some 21) false none (.load 2 true (.t 2)),
                .h (some 22) none (.call (.c (.fn (.func 24) [] [])) [.t 21]),
                .h none none (.store 2 (.t 4) (.t 22)),
                .l (some 5) false none (.mv (.c (.i .i64 7)))])
              .ret)
            .skip))
        (.seq
          (.reg [.l (some 24) false none (.load 2 true (.t 2)),
            .h (some 25) none (.call (.c (.fn (.func 26) [] [])) [.t 24]),
            .l (some 23) false none (.mv (.t 25)),
            .l (some 26) false none (.ext (.t 23) 0),
            .l (some 27) false none (.ext (.t 23) 1),
            .h (some 7) none (.alloc [.nils, .nils]),
            .h none none (.store 2 (.t 7) (.t 26)),
            .l (some 8) false none (.mv (.t 27))])
          (.seq
            (.reg [.l (some 29) false none (.load 2 true (.t 7)),
              .l (some 30) false none (.mv (.t 1)),
              .h (some 31) none (.call (.c (.fn (.func 27) [] [])) [.t 29, .t 30]),
              .l (some 28) false none (.mv (.t 31)),
              .l (some 32) false none (.ext (.t 28) 0),
              .l (some 33) false none (.ext (.t 28) 1),
              .l (some 9) false none (.mv (.t 32)),
              .l (some 10) false none (.mv (.t 33))])
            (.seq
              (.block 0
                (.seq
                  (.reg [.l (some 35) false none (.mv (.t 8)),
                    .l (some 36) false none (.bin .eql (.t 35) (.c (.i .i64 4))),
                    .l (some 34) false none (.mv (.t 36))])
                  (.cond (.t 34)
                    (.seq
                      (.reg [.l (some 37) false none (.load 2 true (.t 7)),
                        .h none none (.store 2 (.t 4) (.t 37)),
                        .l (some 5) false none (.mv (.c (.i .i64 17)))])
                      .ret)
                    (.seq
                      (.reg [.l (some 39) false none (.mv (.t 8)),
                        .l (some 40) false none (.bin .eql (.t 39) (.c (.i .i64 1))),
                        .l (some 41) true none (.mv (.t 40)),
                        .l (some 42) false (some (41, false)) (.mv (.t 8)),
                        .l (some 43) false (some (41, false)) (.bin .eql (.t 42) (.c (.i .i64 3))),
                        .l (some 44) false none (.pick (.t 41) (.c (.tt)) (.t 43)),
                        .l (some 38) false none (.mv (.t 44))])
                      (.cond (.t 38)
                        (.seq
                          (.reg [.l (some 45) false none (.load 2 true (.t 7)),
                            .h none none (.store 2 (.t 4) (.t 45)),
                            .l (some 5) false none (.mv (.c (.i .i64 0)))])
                          .ret)
                        (.seq
                          (.reg [.l (some 47) false none (.mv (.t 10)),
                            .l (some 48) false none (.un .not (.t 47)),
                            .l (some 46) false none (.mv (.t 48))])
                          (.cond (.t 46)
                            (.seq
                              (.reg [.l (some 49) false none (.load 2 true (.t 7)),
                                .h none none (.store 2 (.t 4) (.t 49)),
                                .l (some 5) false none (.mv (.c (.i .i64 9)))])
                              .ret)
                            .skip)))))))
              (.seq
                (.reg [.l (some 50) false none (.faddr 0 (.t 7)),
                  .l (some 51) false none (.load 1 false (.t 50)),
                  .l (some 52) false none (.mv (.t 9)),
                  .l (some 53) false none (.mv (.t 9)),
                  .l (some 54) false none (.bin .add (.t 53) (.c (.i .i64 1))),
                  .h (some 55) none (.call (.c (.fn (.func 31) [] [])) [.t 51, .t 52, .t 54]),
                  .l (some 56) false none (.faddr 0 (.t 7)),
                  .h none none (.store 1 (.t 56) (.t 55))])
                (.seq
                  (.reg [.l (some 57) false none (.load 2 true (.t 7)),
                    .h none none (.store 2 (.t 4) (.t 57)),
                    .l (some 5) false none (.mv (.c (.i .i64 0)))])
                  .ret))))))))
def r16 : List MR := [.cell 4 2 true, .t 5]
theorem is16 : FnIs Try.prog 16 58 m16 r16 := ⟨by kernel_rfl, Try.f16, _, Try.func16, rfl, by decide, rfl, by kernel_rfl, by kernel_rfl⟩

-- hibernacle/shelf.Check
def m17 : MC :=
  (.seq
    (.reg [.h (some 1) none (.box (.t 0)),
      .l (some 2) false none (.mv (.c (.i .i64 0)))])
    (.seq
      (.seq
        (.reg [.l (some 5) false none (.faddr 0 (.t 1)),
          .l (some 6) false none (.load 1 false (.t 5)),
          .l (some 7) false none (.len false (.t 6)),
          .l (some 8) false none (.mv (.c (.i .i64 0)))])
        (.block 0
          (.loop
            (.seq
              (.reg [.l (some 9) false none (.bin .lss (.t 8) (.t 7))])
              (.seq
                (.cond (.t 9)
                  .skip
                  (.exit 0))
                (.seq
                  (.block 1
                    (.seq
                      (.reg [.l (some 10) false none (.mv (.t 8)),
                        .l (some 11) false none (.iaddr 4 (.t 6) (.t 8)),
                        .l (some 12) false none (.load 4 true (.t 11)),
                        .h (some 4) none (.alloc [.s ⟨#[]⟩, .s ⟨#[]⟩, .s ⟨#[]⟩, .ff]),
                        .l (some 3) false none (.mv (.t 10)),
                        .h none none (.store 4 (.t 4) (.t 12))])
                      (.block 2
                        (.seq
                          (.reg [.l (some 14) false none (.faddr 0 (.t 4)),
                            .l (some 15) false none (.load 1 false (.t 14)),
                            .h (some 16) none (.call (.c (.fn (.func 25) [] [])) [.t 15]),
                            .l (some 17) false none (.un .not (.t 16)),
                            .l (some 13) false none (.mv (.t 17))])
                          (.cond (.t 13)
                            (.seq
                              (.reg [.l (some 2) false none (.mv (.c (.i .i64 7)))])
                              .ret)
                            (.seq
                              (.dreg (.light 0 (.l (some 19) false none (.mv (.t 3))) <|
                                (.light 1 (.l (some 20) false none (.bin .gtr (.t 19) (.c (.i .i64 0)))) <|
                                (.light 2 (.l (some 21) true none (.mv (.t 20))) <|
                                (.light 3 (.l (some 22) false (some (21, true)) (.faddr 0 (.t 1))) <|
                                (.light 4 (.l (some 23) false (some (21, true)) (.load 1 false (.t 22))) <|
                                (.light 5 (.l (some 24) false (some (21, true)) (.mv (.t 3))) <|
                                (.light 6 (.l (some 25) false (some (21, true)) (.bin .sub (.t 24) (.c (.i .i64 1)))) <|
                                (.light 7 (.l (some 26) false (some (21, true)) (.iaddr 4 (.t 23) (.t 25))) <|
                                (.light 8 (.l (some 27) false (some (21, true)) (.faddr 0 (.t 26))) <|
                                (.light 9 (.l (some 28) false (some (21, true)) (.load 1 false (.t 27))) <|
                                (.light 10 (.l (some 29) false (some (21, true)) (.faddr 0 (.t 4))) <|
                                (.light 11 (.l (some 30) false (some (21, true)) (.load 1 false (.t 29))) <|
                                (.light 12 (.l (some 31) false (some (21, true)) (.bin .eql (.t 28) (.t 30))) <|
                                (.light 13 (.l (some 32) false none (.pick (.t 21) (.t 31) (.c (.ff)))) <|
                                (.light 14 (.l (some 18) false none (.mv (.t 32))) <|
                                .fin))))))))))))))))
                              (.cond (.t 18)
                                (.seq
                                  (.reg [.l (some 2) false none (.mv (.c (.i .i64 8)))])
                                  .ret)
                                (.seq
                                  (.dreg (.light 0 (.l (some 34) false none (.mv (.t 3))) <|
                                    (.light 1 (.l (some 35) false none (.bin .gtr (.t 34) (.c (.i .i64 0)))) <|
                                    (.light 2 (.l (some 36) true none (.mv (.t 35))) <|
                                    (.light 3 (.l (some 37) false (some (36, true)) (.faddr 0 (.t 1))) <|
                                    (.light 4 (.l (some 38) false (some (36, true)) (.load 1 false (.t 37))) <|
                                    (.light 5 (.l (some 39) false (some (36, true)) (.mv (.t 3))) <|
                                    (.light 6 (.l (some 40) false (some (36, true)) (.bin .sub (.t 39) (.c (.i .i64 1)))) <|
                                    (.light 7 (.l (some 41) false (some (36, true)) (.iaddr 4 (.t 38) (.t 40))) <|
                                    (.light 8 (.l (some 42) false (some (36, true)) (.faddr 0 (.t 41))) <|
                                    (.light 9 (.l (some 43) false (some (36, true)) (.load 1 false (.t 42))) <|
                                    (.light 10 (.l (some 44) false (some (36, true)) (.faddr 0 (.t 4))) <|
                                    (.light 11 (.l (some 45) false (some (36, true)) (.load 1 false (.t 44))) <|
                                    (.light 12 (.l (some 46) false (some (36, true)) (.bin .gtr (.t 43) (.t 45))) <|
                                    (.light 13 (.l (some 47) false none (.pick (.t 36) (.t 46) (.c (.ff)))) <|
                                    (.light 14 (.l (some 33) false none (.mv (.t 47))) <|
                                    .fin))))))))))))))))
                                  (.cond (.t 33)
                                    (.seq
                                      (.reg [.l (some 2) false none (.mv (.c (.i .i64 2)))])
                                      .ret)
                                    (.seq
                                      (.reg [.l (some 49) false none (.faddr 1 (.t 4)),
                                        .l (some 50) false none (.load 1 false (.t 49)),
                                        .l (some 51) false none (.len true (.t 50)),
                                        .l (some 52) false none (.bin .gtr (.t 51) (.c (.i .i64 65536))),
                                        .l (some 53) true none (.mv (.t 52)),
                                        .l (some 54) false (some (53, false)) (.faddr 2 (.t 4)),
                                        .l (some 55) false (some (53, false)) (.load 1 false (.t 54)),
                                        .l (some 56) false (some (53, false)) (.len true (.t 55)),
                                        .l (some 57) false (some (53, false)) (.bin .gtr (.t 56) (.c (.i .i64 65536))),
                                        .l (some 58) false none (.pick (.t 53) (.c (.tt)) (.t 57)),
                                        .l (some 48) false none (.mv (.t 58))])
                                      (.cond (.t 48)
                                        (.seq
                                          (.reg [.l (some 2) false none (.mv (.c (.i .i64 6)))])
                                          .ret)
                                        (.seq
                                          (.reg [.l (some 60) false none (.faddr 3 (.t 4)),
                                            .l (some 61) false none (.load 1 false (.t 60)),
                                            .l (some 62) false none (.un .not (.t 61)),
                                            .l (some 63) true none (.mv (.t 62)),
                                            .l (some 64) false (some (63, true)) (.faddr 2 (.t 4)),
                                            .l (some 65) false (some (63, true)) (.load 1 false (.t 64)),
                                            .l (some 66) false (some (63, true)) (.bin .neq (.t 65) (.c (.s ⟨#[]⟩))),
                                            .l (some 67) false none (.pick (.t 63) (.t 66) (.c (.ff))),
                                            .l (some 59) false none (.mv (.t 67))])
                                          (.cond (.t 59)
                                            (.seq
                                              (.reg [.l (some 2) false none (.mv (.c (.i .i64 3)))])
                                              .ret)
                                            .skip)))))))))))))
                  (.reg [.l (some 68) false none (.bin .add (.t 8) (.c (.i .i64 1))),
                    .l (some 8) false none (.mv (.t 68))])))))))
      (.seq
        (.reg [.l (some 2) false none (.mv (.c (.i .i64 0)))])
        .ret)))
def r17 : List MR := [.t 2]
theorem is17 : FnIs Try.prog 17 69 m17 r17 := ⟨by kernel_rfl, Try.f17, _, Try.func17, rfl, by decide, rfl, by kernel_rfl, by kernel_rfl⟩

-- hibernacle/hibernacleref36.Same
def m18 : MC :=
  (.seq
    (.reg [.h (some 2) none (.box (.t 0)),
      .h (some 3) none (.box (.t 1)),
      .l (some 4) false none (.mv (.c (.ff)))])
    (.seq
      (.seq
        (.reg [.l (some 7) false none (.faddr 0 (.t 2)),
          .l (some 8) false none (.load 1 false (.t 7)),
          .l (some 9) false none (.len false (.t 8)),
          .l (some 10) false none (.faddr 0 (.t 3)),
          .l (some 11) false none (.load 1 false (.t 10)),
          .l (some 12) false none (.len false (.t 11)),
          .l (some 13) false none (.bin .neq (.t 9) (.t 12)),
          .l (some 14) true none (.mv (.t 13)),
          .l (some 15) false (some (14, false)) (.faddr 1 (.t 2)),
          .l (some 16) false (some (14, false)) (.load 1 false (.t 15)),
          .l (some 17) false (some (14, false)) (.len false (.t 16)),
          .l (some 18) false (some (14, false)) (.faddr 1 (.t 3)),
          .l (some 19) false (some (14, false)) (.load 1 false (.t 18)),
          .l (some 20) false (some (14, false)) (.len false (.t 19)),
          .l (some 21) false (some (14, false)) (.bin .neq (.t 17) (.t 20)),
          .l (some 22) false none (.pick (.t 14) (.c (.tt)) (.t 21))])
        (.cond (.t 22)
          (.seq
            (.reg [.l (some 4) false none (.mv (.c (.ff)))])
            .ret)
          .skip))
      (.seq
        (.seq
          (.reg [.l (some 23) false none (.faddr 0 (.t 2)),
            .l (some 24) false none (.load 1 false (.t 23)),
            .l (some 25) false none (.len false (.t 24)),
            .l (some 26) false none (.mv (.c (.i .i64 0)))])
          (.block 0
            (.loop
              (.seq
                (.reg [.l (some 27) false none (.bin .lss (.t 26) (.t 25))])
                (.seq
                  (.cond (.t 27)
                    .skip
                    (.exit 0))
                  (.seq
                    (.block 1
                      (.seq
                        (.reg [.l (some 28) false none (.mv (.t 26)),
                          .l (some 5) false none (.mv (.t 28))])
                        (.seq
                          (.dreg (.light 0 (.l (some 29) false none (.faddr 0 (.t 2))) <|
                            (.light 1 (.l (some 30) false none (.load 1 false (.t 29))) <|
                            (.light 2 (.l (some 31) false none (.mv (.t 5))) <|
                            (.light 3 (.l (some 32) false none (.iaddr 4 (.t 30) (.t 31))) <|
                            (.light 4 (.l (some 33) false none (.load 4 true (.t 32))) <|
                            (.light 5 (.l (some 34) false none (.faddr 0 (.t 3))) <|
                            (.light 6 (.l (some 35) false none (.load 1 false (.t 34))) <|
                            (.light 7 (.l (some 36) false none (.mv (.t 5))) <|
                            (.light 8 (.l (some 37) false none (.iaddr 4 (.t 35) (.t 36))) <|
                            (.light 9 (.l (some 38) false none (.load 4 true (.t 37))) <|
                            (.light 10 (.l (some 39) false none (.eqA true [0, 0, 0, 2] (.t 33) (.t 38))) <|
                            .fin))))))))))))
                          (.cond (.t 39)
                            (.seq
                              (.reg [.l (some 4) false none (.mv (.c (.ff)))])
                              .ret)
                            .skip))))
                    (.reg [.l (some 40) false none (.bin .add (.t 26) (.c (.i .i64 1))),
                      .l (some 26) false none (.mv (.t 40))])))))))
        (.seq
          (.seq
            (.reg [.l (some 41) false none (.faddr 1 (.t 2)),
              .l (some 42) false none (.load 1 false (.t 41)),
              .l (some 43) false none (.len false (.t 42)),
              .l (some 44) false none (.mv (.c (.i .i64 0)))])
            (.block 2
              (.loop
                (.seq
                  (.reg [.l (some 45) false none (.bin .lss (.t 44) (.t 43))])
                  (.seq
                    (.cond (.t 45)
                      .skip
                      (.exit 2))
                    (.seq
                      (.block 3
                        (.seq
                          (.reg [.l (some 46) false none (.mv (.t 44)),
                            .l (some 6) false none (.mv (.t 46))])
                          (.seq
                            (.dreg (.light 0 (.l (some 47) false none (.faddr 1 (.t 2))) <|
                              (.light 1 (.l (some 48) false none (.load 1 false (.t 47))) <|
                              (.light 2 (.l (some 49) false none (.mv (.t 6))) <|
                              (.light 3 (.l (some 50) false none (.iaddr 1 (.t 48) (.t 49))) <|
                              (.light 4 (.l (some 51) false none (.load 1 false (.t 50))) <|
                              (.light 5 (.l (some 52) false none (.faddr 1 (.t 3))) <|
                              (.light 6 (.l (some 53) false none (.load 1 false (.t 52))) <|
                              (.light 7 (.l (some 54) false none (.mv (.t 6))) <|
                              (.light 8 (.l (some 55) false none (.iaddr 1 (.t 53) (.t 54))) <|
                              (.light 9 (.l (some 56) false none (.load 1 false (.t 55))) <|
                              (.light 10 (.l (some 57) false none (.bin .neq (.t 51) (.t 56))) <|
                              .fin))))))))))))
                            (.cond (.t 57)
                              (.seq
                                (.reg [.l (some 4) false none (.mv (.c (.ff)))])
                                .ret)
                              .skip))))
                      (.reg [.l (some 58) false none (.bin .add (.t 44) (.c (.i .i64 1))),
                        .l (some 44) false none (.mv (.t 58))])))))))
          (.seq
            (.reg [.l (some 4) false none (.mv (.c (.tt)))])
            .ret)))))
def r18 : List MR := [.t 4]
theorem is18 : FnIs Try.prog 18 59 m18 r18 := ⟨by kernel_rfl, Try.f18, _, Try.func18, rfl, by decide, rfl, by kernel_rfl, by kernel_rfl⟩

-- hibernacle/hibernaclelaw36.great
def m19 : MC :=
  (.seq
    (.reg [.l (some 2) false none (.mv (.c (.ff)))])
    (.seq
      (.seq
        (.reg [.l (some 3) false none (.mv (.c (.i .i64 0)))])
        (.block 0
          (.loop
            (.seq
              (.seq
                (.reg [.l (some 4) false none (.mv (.t 3)),
                  .l (some 5) false none (.mv (.t 0)),
                  .l (some 6) false none (.len false (.t 5)),
                  .l (some 7) false none (.bin .lss (.t 4) (.t 6))])
                (.cond (.t 7)
                  .skip
                  (.exit 0)))
              (.seq
                (.block 1
                  (.seq
                    (.reg [.l (some 10) false none (.mv (.t 0)),
                      .l (some 11) false none (.mv (.t 3)),
                      .l (some 12) false none (.iaddr 3 (.t 10) (.t 11)),
                      .l (some 13) false none (.faddr 1 (.t 12)),
                      .l (some 14) false none (.load 1 false (.t 13)),
                      .l (some 15) false none (.len true (.t 14)),
                      .l (some 16) false none (.bin .gtr (.t 15) (.c (.i .i64 200))),
                      .l (some 17) true none (.mv (.t 16)),
                      .l (some 18) false (some (17, false)) (.mv (.t 0)),
                      .l (some 19) false (some (17, false)) (.mv (.t 3)),
                      .l (some 20) false (some (17, false)) (.iaddr 3 (.t 18) (.t 19)),
                      .l (some 21) false (some (17, false)) (.faddr 2 (.t 20)),
                      .l (some 22) false (some (17, false)) (.load 1 false (.t 21)),
                      .l (some 23) false (some (17, false)) (.len true (.t 22)),
                      .l (some 24) false (some (17, false)) (.bin .gtr (.t 23) (.c (.i .i64 500))),
                      .l (some 25) false none (.pick (.t 17) (.c (.tt)) (.t 24))])
                    (.cond (.t 25)
                      (.seq
                        (.reg [.l (some 2) false none (.mv (.c (.tt)))])
                        .ret)
                      .skip)))
                (.reg [.l (some 8) false none (.mv (.t 3)),
                  .l (some 9) false none (.bin .add (.t 8) (.c (.i .i64 1))),
                  .l (some 3) false none (.mv (.t 9))]))))))
      (.seq
        (.reg [.l (some 26) false none (.mv (.t 0)),
          .l (some 27) false none (.len false (.t 26)),
          .l (some 28) false none (.bin .gtr (.t 27) (.c (.i .i64 20))),
          .l (some 2) false none (.mv (.t 28))])
        .ret)))
def r19 : List MR := [.t 2]
theorem is19 : FnIs Try.prog 19 29 m19 r19 := ⟨by kernel_rfl, Try.f19, _, Try.func19, rfl, by decide, rfl, by kernel_rfl, by kernel_rfl⟩

-- hibernacle/hibernacleref36.Put
def m20 : MC :=
  (.seq
    (.reg [.h (some 3) none (.box (.t 0)),
      .h (some 6) none (.alloc [.nils, .nils]),
      .l (some 7) false none (.mv (.c (.i .i64 0)))])
    (.seq
      (.reg [.l (some 12) false none (.load 2 true (.t 3)),
        .h (some 13) none (.call (.c (.fn (.func 9) [] [])) [.t 12]),
        .l (some 8) false none (.mv (.t 13))])
      (.seq
        (.seq
          (.reg [.l (some 14) false none (.mv (.t 8)),
            .l (some 15) false none (.bin .neq (.t 14) (.c (.i .i64 0)))])
          (.cond (.t 15)
            (.seq
              (.reg [.l (some 16) false none (.load 2 true (.t 3)),
                .l (some 17) false none (.mv (.t 8)),
                .h none none (.store 2 (.t 6) (.t 16)),
                .l (some 7) false none (.mv (.t 17))])
              .ret)
            .skip))
        (.seq
          (.seq
            (.reg [.l (some 18) false none (.mv (.t 1)),
              .h (some 19) none (.call (.c (.fn (.func 10) [] [])) [.t 18]),
              .l (some 20) false none (.un .not (.t 19))])
            (.cond (.t 20)
              (.seq
                (.reg [.l (some 21) false none (.load 2 true (.t 3)),
                  .h none none (.store 2 (.t 6) (.t 21)),
                  .l (some 7) false none (.mv (.c (.i .i64 7)))])
                .ret)
              .skip))
          (.seq
            (.seq
              (.reg [.l (some 22) false none (.mv (.t 2)),
                .l (some 23) false none (.len true (.t 22)),
                .l (some 24) false none (.bin .gtr (.t 23) (.c (.i .i64 65536)))])
              (.cond (.t 24)
                (.seq
                  (.reg [.l (some 25) false none (.load 2 true (.t 3)),
                    .h none none (.store 2 (.t 6) (.t 25)),
                    .l (some 7) false none (.mv (.c (.i .i64 6)))])
                  .ret)
                .skip))
            (.seq
              (.reg [.l (some 27) false none (.load 2 true (.t 3)),
                .h (some 28) none (.call (.c (.fn (.func 32) [] [])) [.t 27]),
                .l (some 26) false none (.mv (.t 28)),
                .l (some 29) false none (.ext (.t 26) 0),
                .l (some 30) false none (.ext (.t 26) 1),
                .h none none (.store 2 (.t 3) (.t 29)),
                .l (some 9) false none (.mv (.t 30))])
              (.seq
                (.seq
                  (.reg [.l (some 31) false none (.mv (.t 9)),
                    .l (some 32) false none (.bin .eql (.t 31) (.c (.i .i64 4)))])
                  (.cond (.t 32)
                    (.seq
                      (.reg [.l (some 33) false none (.load 2 true (.t 3)),
                        .h none none (.store 2 (.t 6) (.t 33)),
                        .l (some 7) false none (.mv (.c (.i .i64 17)))])
                      .ret)
                    .skip))
                (.seq
                  (.seq
                    (.reg [.l (some 34) false none (.mv (.t 9)),
                      .l (some 35) false none (.bin .eql (.t 34) (.c (.i .i64 1))),
                      .l (some 36) true none (.mv (.t 35)),
                      .l (some 37) false (some (36, false)) (.mv (.t 9)),
                      .l (some 38) false (some (36, false)) (.bin .eql (.t 37) (.c (.i .i64 3))),
                      .l (some 39) false none (.pick (.t 36) (.c (.tt)) (.t 38))])
                    (.cond (.t 39)
                      (.seq
                        (.reg [.l (some 40) false none (.load 2 true (.t 3)),
                          .h none none (.store 2 (.t 6) (.t 40)),
                          .l (some 7) false none (.mv (.c (.i .i64 0)))])
                        .ret)
                      .skip))
                  (.seq
                    (.seq
                      (.reg [.l (some 41) false none (.mv (.t 9)),
                        .l (some 42) false none (.bin .eql (.t 41) (.c (.i .i64 2)))])
                      (.cond (.t 42)
                        (.reg [.l (some 43) false none (.mv (.t 2)),
                          .h (some 44) none (.call (.c (.fn (.func 33) [] [])) [.t 43]),
                          .l (some 2) false none (.mv (.t 44))])
                        .skip))
                    (.seq
                      (.reg [.l (some 46) false none (.load 2 true (.t 3)),
                        .l (some 47) false none (.mv (.t 1)),
                        .h (some 48) none (.call (.c (.fn (.func 34) [] [])) [.t 46, .t 47]),
                        .l (some 45) false none (.mv (.t 48)),
                        .l (some 49) false none (.ext (.t 45) 0),
                        .l (some 50) false none (.ext (.t 45) 1),
                        .h (some 10) none (.alloc [.s ⟨#[]⟩, .s ⟨#[]⟩, .s ⟨#[]⟩, .ff]),
                        .h none none (.store 4 (.t 10) (.t 49)),
                        .l (some 11) false none (.mv (.t 50))])
                      (.seq
                        (.reg [.l (some 51) false none (.load 2 true (.t 3)),
                          .l (some 52) false none (.mv (.t 1)),
                          .l (some 53) false none (.mv (.t 1)),
                          .l (some 54) false none (.mv (.t 2)),
                          .l (some 55) false none (.faddr 1 (.t 10)),
                          .l (some 56) false none (.load 1 false (.t 55)),
                          .l (some 57) false none (.mv (.t 11)),
                          .l (some 58) false none (.build [.s ⟨#[]⟩, .s ⟨#[]⟩, .s ⟨#[]⟩, .ff] [(0, 1, .t 53), (1, 1, .t 54), (2, 1, .t 56), (3, 1, .t 57)]),
                          .h (some 59) none (.call (.c (.fn (.func 35) [] [])) [.t 51, .t 52, .c (.tt), .t 58]),
                          .h none none (.store 2 (.t 6) (.t 59)),
                          .l (some 7) false none (.mv (.c (.i .i64 0)))])
                        .ret)))))))))))
def r20 : List MR := [.cell 6 2 true, .t 7]
theorem is20 : FnIs Try.prog 20 60 m20 r20 := ⟨by kernel_rfl, Try.f20, _, Try.func20, rfl, by decide, rfl, by kernel_rfl, by kernel_rfl⟩

-- hibernacle/hibernacleref36.Get
def m21 : MC :=
  (.seq
    (.reg [.h (some 2) none (.box (.t 0)),
      .h (some 4) none (.alloc [.nils, .nils]),
      .l (some 5) false none (.mv (.c (.s ⟨#[]⟩))),
      .l (some 6) false none (.mv (.c (.i .i64 0)))])
    (.seq
      (.reg [.l (some 11) false none (.load 2 true (.t 2)),
        .h (some 12) none (.call (.c (.fn (.func 9) [] [])) [.t 11]),
        .l (some 7) false none (.mv (.t 12))])
      (.seq
        (.seq
          (.reg [.l (some 13) false none (.mv (.t 7)),
            .l (some 14) false none (.bin .neq (.t 13) (.c (.i .i64 0)))])
          (.cond (.t 14)
            (.seq
              (.reg [.l (some 15) false none (.load 2 true (.t 2)),
                .l (some 16) false none (.mv (.t 7)),
                .h none none (.store 2 (.t 4) (.t 15)),
                .l (some 5) false none (.mv (.c (.s ⟨#[]⟩))),
                .l (some 6) false none (.mv (.t 16))])
              .ret)
            .skip))
        (.seq
          (.seq
            (.reg [.l (some 17) false none (.mv (.t 1)),
              .h (some 18) none (.call (.c (.fn (.func 10) [] [])) [.t 17]),
              .l (some 19) false none (.un .not (.t 18))])
            (.cond (.t 19)
              (.seq
                (.reg [.l (some 20) false none (.load 2 true (.t 2)),
                  .h none none (.store 2 (.t 4) (.t 20)),
                  .l (some 5) false none (.mv (.c (.s ⟨#[]⟩))),
                  .l (some 6) false none (.mv (.c (.i .i64 7)))])
                .ret)
              .skip))
          (.seq
            (.reg [.l (some 22) false none (.load 2 true (.t 2)),
              .h (some 23) none (.call (.c (.fn (.func 32) [] [])) [.t 22]),
              .l (some 21) false none (.mv (.t 23)),
              .l (some 24) false none (.ext (.t 21) 0),
              .l (some 25) false none (.ext (.t 21) 1),
              .h none none (.store 2 (.t 2) (.t 24)),
              .l (some 8) false none (.mv (.t 25))])
            (.seq
              (.reg [.l (some 27) false none (.load 2 true (.t 2)),
                .l (some 28) false none (.mv (.t 1)),
                .h (some 29) none (.call (.c (.fn (.func 34) [] [])) [.t 27, .t 28]),
                .l (some 26) false none (.mv (.t 29)),
                .l (some 30) false none (.ext (.t 26) 0),
                .l (some 31) false none (.ext (.t 26) 1),
                .h (some 9) none (.alloc [.s ⟨#[]⟩, .s ⟨#[]⟩, .s ⟨#[]⟩, .ff]),
                .h none none (.store 4 (.t 9) (.t 30)),
                .l (some 10) false none (.mv (.t 31))])
              (.seq
                (.seq
                  (.reg [.l (some 32) false none (.mv (.t 8)),
                    .l (some 33) false none (.bin .eql (.t 32) (.c (.i .i64 4)))])
                  (.cond (.t 33)
                    (.seq
                      (.reg [.l (some 34) false none (.load 2 true (.t 2)),
                        .h none none (.store 2 (.t 4) (.t 34)),
                        .l (some 5) false none (.mv (.c (.s ⟨#[]⟩))),
                        .l (some 6) false none (.mv (.c (.i .i64 17)))])
                      .ret)
                    .skip))
                (.seq
                  (.seq
                    (.reg [.l (some 35) false none (.mv (.t 10)),
                      .l (some 36) false none (.un .not (.t 35)),
                      .l (some 37) true none (.mv (.t 36)),
                      .l (some 38) false (some (37, false)) (.mv (.t 8)),
                      .l (some 39) false (some (37, false)) (.bin .eql (.t 38) (.c (.i .i64 1))),
                      .l (some 40) false none (.pick (.t 37) (.c (.tt)) (.t 39)),
                      .l (some 41) true none (.mv (.t 40)),
                      .l (some 42) false (some (41, false)) (.mv (.t 8)),
                      .l (some 43) false (some (41, false)) (.bin .eql (.t 42) (.c (.i .i64 3))),
                      .l (some 44) true (some (41, false)) (.mv (.t 43)),
                      .l (some 45) false (some (44, true)) (.faddr 3 (.t 9)),
                      .l (some 46) false (some (44, true)) (.load 1 false (.t 45)),
                      .l (some 47) false (some (44, true)) (.un .not (.t 46)),
                      .l (some 48) false (some (41, false)) (.pick (.t 44) (.t 47) (.c (.ff))),
                      .l (some 49) false none (.pick (.t 41) (.c (.tt)) (.t 48))])
                    (.cond (.t 49)
                      (.seq
                        (.reg [.l (some 50) false none (.load 2 true (.t 2)),
                          .h none none (.store 2 (.t 4) (.t 50)),
                          .l (some 5) false none (.mv (.c (.s ⟨#[]⟩))),
                          .l (some 6) false none (.mv (.c (.i .i64 9)))])
                        .ret)
                      .skip))
                  (.seq
                    (.seq
                      (.reg [.l (some 51) false none (.mv (.t 8)),
                        .l (some 52) false none (.bin .eql (.t 51) (.c (.i .i64 3)))])
                      (.cond (.t 52)
                        (.seq
                          (.dreg (.light 0 (.l (some 53) false none (.load 2 true (.t 2))) <|
                            (.light 1 (.l (some 54) false none (.faddr 2 (.t 9))) <|
                            (.light 2 (.l (some 55) false none (.load 1 false (.t 54))) <|
                            (.heavy 3 [1, 2] (.h none none (.store 2 (.t 4) (.t 53)))
                            (.light 4 (.l (some 5) false none (.mv (.t 55))) <|
                            (.light 5 (.l (some 6) false none (.mv (.c (.i .i64 0)))) <|
                            .fin))
                            .nil)))))
                          .ret)
                        .skip))
                    (.seq
                      (.seq
                        (.reg [.l (some 56) false none (.mv (.t 8)),
                          .l (some 57) false none (.bin .eql (.t 56) (.c (.i .i64 2)))])
                        (.cond (.t 57)
                          (.seq
                            (.dreg (.light 0 (.l (some 58) false none (.load 2 true (.t 2))) <|
                              (.light 1 (.l (some 59) false none (.faddr 1 (.t 9))) <|
                              (.light 2 (.l (some 60) false none (.load 1 false (.t 59))) <|
                              (.heavy 3 [0] (.h (some 61) none (.call (.c (.fn (.func 33) [] [])) [.t 60]))
                              (.heavy 4 [] (.h none none (.store 2 (.t 4) (.t 58)))
                              (.light 5 (.l (some 5) false none (.mv (.t 61))) <|
                              (.light 6 (.l (some 6) false none (.mv (.c (.i .i64 0)))) <|
                              .fin))
                              .nil)
                              .nil)))))
                            .ret)
                          .skip))
                      (.seq
                        (.dreg (.light 0 (.l (some 62) false none (.load 2 true (.t 2))) <|
                          (.light 1 (.l (some 63) false none (.faddr 1 (.t 9))) <|
                          (.light 2 (.l (some 64) false none (.load 1 false (.t 63))) <|
                          (.heavy 3 [1, 2] (.h none none (.store 2 (.t 4) (.t 62)))
                          (.light 4 (.l (some 5) false none (.mv (.t 64))) <|
                          (.light 5 (.l (some 6) false none (.mv (.c (.i .i64 0)))) <|
                          .fin))
                          .nil)))))
                        .ret)))))))))))
def r21 : List MR := [.cell 4 2 true, .t 5, .t 6]
theorem is21 : FnIs Try.prog 21 65 m21 r21 := ⟨by kernel_rfl, Try.f21, _, Try.func21, rfl, by decide, rfl, by kernel_rfl, by kernel_rfl⟩

-- hibernacle/hibernacleref36.Drop
def m22 : MC :=
  (.seq
    (.reg [.h (some 2) none (.box (.t 0)),
      .h (some 4) none (.alloc [.nils, .nils]),
      .l (some 5) false none (.mv (.c (.i .i64 0)))])
    (.seq
      (.reg [.l (some 10) false none (.load 2 true (.t 2)),
        .h (some 11) none (.call (.c (.fn (.func 9) [] [])) [.t 10]),
        .l (some 6) false none (.mv (.t 11))])
      (.seq
        (.seq
          (.reg [.l (some 12) false none (.mv (.t 6)),
            .l (some 13) false none (.bin .neq (.t 12) (.c (.i .i64 0)))])
          (.cond (.t 13)
            (.seq
              (.reg [.l (some 14) false none (.load 2 true (.t 2)),
                .l (some 15) false none (.mv (.t 6)),
                .h none none (.store 2 (.t 4) (.t 14)),
                .l (some 5) false none (.mv (.t 15))])
              .ret)
            .skip))
        (.seq
          (.seq
            (.reg [.l (some 16) false none (.mv (.t 1)),
              .h (some 17) none (.call (.c (.fn (.func 10) [] [])) [.t 16]),
              .l (some 18) false none (.un .not (.t 17))])
            (.cond (.t 18)
              (.seq
                (.reg [.l (some 19) false none (.load 2 true (.t 2)),
                  .h none none (.store 2 (.t 4) (.t 19)),
                  .l (some 5) false none (.mv (.c (.i .i64 7)))])
                .ret)
              .skip))
          (.seq
            (.reg [.l (some 21) false none (.load 2 true (.t 2)),
              .h (some 22) none (.call (.c (.fn (.func 32) [] [])) [.t 21]),
              .l (some 20) false none (.mv (.t 22)),
              .l (some 23) false none (.ext (.t 20) 0),
              .l (some 24) false none (.ext (.t 20) 1),
              .h none none (.store 2 (.t 2) (.t 23)),
              .l (some 7) false none (.mv (.t 24))])
            (.seq
              (.seq
                (.reg [.l (some 25) false none (.mv (.t 7)),
                  .l (some 26) false none (.bin .eql (.t 25) (.c (.i .i64 4)))])
                (.cond (.t 26)
                  (.seq
                    (.reg [.l (some 27) false none (.load 2 true (.t 2)),
                      .h none none (.store 2 (.t 4) (.t 27)),
                      .l (some 5) false none (.mv (.c (.i .i64 17)))])
                    .ret)
                  .skip))
              (.seq
                (.seq
                  (.reg [.l (some 28) false none (.mv (.t 7)),
                    .l (some 29) false none (.bin .eql (.t 28) (.c (.i .i64 1))),
                    .l (some 30) true none (.mv (.t 29)),
                    .l (some 31) false (some (30, false)) (.mv (.t 7)),
                    .l (some 32) false (some (30, false)) (.bin .eql (.t 31) (.c (.i .i64 3))),
                    .l (some 33) false none (.pick (.t 30) (.c (.tt)) (.t 32))])
                  (.cond (.t 33)
                    (.seq
                      (.reg [.l (some 34) false none (.load 2 true (.t 2)),
                        .h none none (.store 2 (.t 4) (.t 34)),
                        .l (some 5) false none (.mv (.c (.i .i64 0)))])
                      .ret)
                    .skip))
                (.seq
                  (.reg [.l (some 36) false none (.load 2 true (.t 2)),
                    .l (some 37) false none (.mv (.t 1)),
                    .h (some 38) none (.call (.c (.fn (.func 34) [] [])) [.t 36, .t 37]),
                    .l (some 35) false none (.mv (.t 38)),
                    .l (some 39) false none (.ext (.t 35) 0),
                    .l (some 40) false none (.ext (.t 35) 1),
                    .h (some 8) none (.alloc [.s ⟨#[]⟩, .s ⟨#[]⟩, .s ⟨#[]⟩, .ff]),
                    .h none none (.store 4 (.t 8) (.t 39)),
                    .l (some 9) false none (.mv (.t 40))])
                  (.seq
                    (.seq
                      (.reg [.l (some 41) false none (.mv (.t 9)),
                        .l (some 42) false none (.un .not (.t 41))])
                      (.cond (.t 42)
                        (.seq
                          (.reg [.l (some 43) false none (.load 2 true (.t 2)),
                            .h none none (.store 2 (.t 4) (.t 43)),
                            .l (some 5) false none (.mv (.c (.i .i64 9)))])
                          .ret)
                        .skip))
                    (.seq
                      (.reg [.l (some 44) false none (.load 2 true (.t 2)),
                        .l (some 45) false none (.mv (.t 1)),
                        .l (some 46) false none (.build [.s ⟨#[]⟩, .s ⟨#[]⟩, .s ⟨#[]⟩, .ff] []),
                        .h (some 47) none (.call (.c (.fn (.func 35) [] [])) [.t 44, .t 45, .c (.ff), .t 46]),
                        .h none none (.store 2 (.t 4) (.t 47)),
                        .l (some 5) false none (.mv (.c (.i .i64 0)))])
                      .ret))))))))))
def r22 : List MR := [.cell 4 2 true, .t 5]
theorem is22 : FnIs Try.prog 22 48 m22 r22 := ⟨by kernel_rfl, Try.f22, _, Try.func22, rfl, by decide, rfl, by kernel_rfl, by kernel_rfl⟩

-- hibernacle/hibernacleref36.Names
def m23 : MC :=
  (.seq
    (.reg [.h (some 2) none (.box (.t 0)),
      .h (some 4) none (.alloc [.nils, .nils]),
      .l (some 5) false none (.mv (.c (.nils))),
      .l (some 6) false none (.mv (.c (.i .i64 0)))])
    (.seq
      (.reg [.h (some 12) none (.bslice 1 0 [.s ⟨#[]⟩] []),
        .l (some 7) false none (.mv (.t 12))])
      (.seq
        (.reg [.l (some 13) false none (.load 2 true (.t 2)),
          .h (some 14) none (.call (.c (.fn (.func 9) [] [])) [.t 13]),
          .l (some 8) false none (.mv (.t 14))])
        (.seq
          (.seq
            (.reg [.l (some 15) false none (.mv (.t 8)),
              .l (some 16) false none (.bin .neq (.t 15) (.c (.i .i64 0)))])
            (.cond (.t 16)
              (.seq
                (.reg [.l (some 17) false none (.load 2 true (.t 2)),
                  .l (some 18) false none (.mv (.t 7)),
                  .l (some 19) false none (.mv (.t 8)),
                  .h none none (.store 2 (.t 4) (.t 17)),
                  .l (some 5) false none (.mv (.t 18)),
                  .l (some 6) false none (.mv (.t 19))])
                .ret)
              .skip))
          (.seq
            (.reg [.l (some 21) false none (.load 2 true (.t 2)),
              .h (some 22) none (.call (.c (.fn (.func 32) [] [])) [.t 21]),
              .l (some 20) false none (.mv (.t 22)),
              .l (some 23) false none (.ext (.t 20) 0),
              .l (some 24) false none (.ext (.t 20) 1),
              .h none none (.store 2 (.t 2) (.t 23)),
              .l (some 9) false none (.mv (.t 24))])
            (.seq
              (.seq
                (.reg [.l (some 25) false none (.mv (.t 9)),
                  .l (some 26) false none (.bin .eql (.t 25) (.c (.i .i64 4)))])
                (.cond (.t 26)
                  (.seq
                    (.reg [.l (some 27) false none (.load 2 true (.t 2)),
                      .l (some 28) false none (.mv (.t 7)),
                      .h none none (.store 2 (.t 4) (.t 27)),
                      .l (some 5) false none (.mv (.t 28)),
                      .l (some 6) false none (.mv (.c (.i .i64 17)))])
                    .ret)
                  .skip))
              (.seq
                (.seq
                  (.reg [.l (some 29) false none (.faddr 0 (.t 2)),
                    .l (some 30) false none (.load 1 false (.t 29)),
                    .l (some 31) false none (.len false (.t 30)),
                    .l (some 32) false none (.mv (.c (.i .i64 0)))])
                  (.block 0
                    (.loop
                      (.seq
                        (.reg [.l (some 33) false none (.bin .lss (.t 32) (.t 31))])
                        (.seq
                          (.cond (.t 33)
                            .skip
                            (.exit 0))
                          (.seq
                            (.block 1
                              (.seq
                                (.reg [.l (some 34) false none (.mv (.t 32)),
                                  .l (some 10) false none (.mv (.t 34))])
                                (.seq
                                  (.reg [.l (some 35) false none (.faddr 0 (.t 2)),
                                    .l (some 36) false none (.load 1 false (.t 35)),
                                    .l (some 37) false none (.mv (.t 10)),
                                    .l (some 38) false none (.iaddr 4 (.t 36) (.t 37)),
                                    .l (some 39) false none (.load 4 true (.t 38)),
                                    .h (some 11) none (.alloc [.s ⟨#[]⟩, .s ⟨#[]⟩, .s ⟨#[]⟩, .ff]),
                                    .h none none (.store 4 (.t 11) (.t 39))])
                                  (.seq
                                    (.reg [.l (some 40) false none (.faddr 0 (.t 11)),
                                      .l (some 41) false none (.load 1 false (.t 40)),
                                      .l (some 42) false none (.len true (.t 41)),
                                      .l (some 43) false none (.mv (.t 1)),
                                      .l (some 44) false none (.len true (.t 43)),
                                      .l (some 45) false none (.bin .geq (.t 42) (.t 44)),
                                      .l (some 46) true none (.mv (.t 45)),
                                      .l (some 47) false (some (46, true)) (.faddr 0 (.t 11)),
                                      .l (some 48) false (some (46, true)) (.load 1 false (.t 47)),
                                      .l (some 49) false (some (46, true)) (.mv (.t 1)),
                                      .l (some 50) false (some (46, true)) (.len true (.t 49)),
                                      .l (some 51) false (some (46, true)) (.slcS (.t 48) none (some (.t 50))),
                                      .l (some 52) false (some (46, true)) (.mv (.t 1)),
                                      .l (some 53) false (some (46, true)) (.bin .eql (.t 51) (.t 52)),
                                      .l (some 54) false none (.pick (.t 46) (.t 53) (.c (.ff))),
                                      .l (some 55) true none (.mv (.t 54)),
                                      .l (some 56) false (some (55, true)) (.mv (.t 9)),
                                      .l (some 57) false (some (55, true)) (.bin .neq (.t 56) (.c (.i .i64 1))),
                                      .l (some 58) false none (.pick (.t 55) (.t 57) (.c (.ff))),
                                      .l (some 59) true none (.mv (.t 58)),
                                      .l (some 60) false (some (59, true)) (.mv (.t 9)),
                                      .l (some 61) false (some (59, true)) (.bin .neq (.t 60) (.c (.i .i64 3))),
                                      .l (some 62) true (some (59, true)) (.mv (.t 61)),
                                      .l (some 63) false (some (62, false)) (.faddr 3 (.t 11)),
                                      .l (some 64) false (some (62, false)) (.load 1 false (.t 63)),
                                      .l (some 65) false (some (59, true)) (.pick (.t 62) (.c (.tt)) (.t 64)),
                                      .l (some 66) false none (.pick (.t 59) (.t 65) (.c (.ff)))])
                                    (.cond (.t 66)
                                      (.reg [.l (some 67) false none (.mv (.t 7)),
                                        .l (some 68) false none (.faddr 0 (.t 11)),
                                        .l (some 69) false none (.load 1 false (.t 68)),
                                        .h (some 70) none (.bslice 1 1 [.s ⟨#[]⟩] [(0, 1, .t 69)]),
                                        .h (some 71) none (.app 1 16 (.t 67) (.t 70)),
                                        .l (some 7) false none (.mv (.t 71))])
                                      .skip)))))
                            (.reg [.l (some 72) false none (.bin .add (.t 32) (.c (.i .i64 1))),
                              .l (some 32) false none (.mv (.t 72))])))))))
                (.seq
                  (.reg [.l (some 73) false none (.load 2 true (.t 2)),
                    .l (some 74) false none (.mv (.t 7)),
                    .h none none (.store 2 (.t 4) (.t 73)),
                    .l (some 5) false none (.mv (.t 74)),
                    .l (some 6) false none (.mv (.c (.i .i64 0)))])
                  .ret))))))))
def r23 : List MR := [.cell 4 2 true, .t 5, .t 6]
theorem is23 : FnIs Try.prog 23 75 m23 r23 := ⟨by kernel_rfl, Try.f23, _, Try.func23, rfl, by decide, rfl, by kernel_rfl, by kernel_rfl⟩

-- hibernacle/shelf.same
def m24 : MC :=
  (.seq
    (.reg [.h (some 1) none (.box (.t 0)),
      .h (some 2) none (.alloc [.nils, .nils])])
    (.seq
      (.dreg (.light 0 (.l (some 3) false none (.faddr 0 (.t 1))) <|
        (.light 1 (.l (some 4) false none (.load 1 false (.t 3))) <|
        (.light 3 (.l (some 6) false none (.faddr 1 (.t 1))) <|
        (.light 4 (.l (some 7) false none (.load 1 false (.t 6))) <|
        (.heavy 2 [3, 4] (.h (some 5) none (.call (.c (.fn (.func 36) [] [])) [.t 4]))
        (.heavy 5 [] (.h (some 8) none (.call (.c (.fn (.func 37) [] [])) [.t 7]))
        (.light 6 (.l (some 9) false none (.build [.nils, .nils] [(0, 1, .t 5), (1, 1, .t 8)])) <|
        (.heavy 7 [] (.h none none (.store 2 (.t 2) (.t 9)))
        .fin
        .nil))
        .nil)
        .nil))))))
      .ret))
def r24 : List MR := [.cell 2 2 true]
theorem is24 : FnIs Try.prog 24 10 m24 r24 := ⟨by kernel_rfl, Try.f24, _, Try.func24, rfl, by decide, rfl, by kernel_rfl, by kernel_rfl⟩

-- hibernacle/shelf.named
def m25 : MC :=
  (.seq
    (.reg [.l (some 2) false none (.mv (.c (.ff)))])
    (.seq
      (.reg [.l (some 3) false none (.mv (.t 0)),
        .l (some 4) false none (.len true (.t 3)),
        .l (some 5) false none (.bin .geq (.t 4) (.c (.i .i64 1))),
        .l (some 6) true none (.mv (.t 5)),
        .l (some 7) false (some (6, true)) (.mv (.t 0)),
        .l (some 8) false (some (6, true)) (.len true (.t 7)),
        .l (some 9) false (some (6, true)) (.bin .leq (.t 8) (.c (.i .i64 100))),
        .l (some 10) false none (.pick (.t 6) (.t 9) (.c (.ff))),
        .l (some 2) false none (.mv (.t 10))])
      .ret))
def r25 : List MR := [.t 2]
theorem is25 : FnIs Try.prog 25 11 m25 r25 := ⟨by kernel_rfl, Try.f25, _, Try.func25, rfl, by decide, rfl, by kernel_rfl, by kernel_rfl⟩

-- hibernacle/shelf.next
def m26 : MC :=
  (.seq
    (.reg [.h (some 1) none (.box (.t 0)),
      .h (some 2) none (.alloc [.nils, .nils]),
      .l (some 3) false none (.mv (.c (.i .i64 0)))])
    (.seq
      (.reg [.l (some 5) false none (.faddr 0 (.t 1)),
        .l (some 6) false none (.load 1 false (.t 5)),
        .h (some 7) none (.call (.c (.fn (.func 36) [] [])) [.t 6]),
        .l (some 8) false none (.build [.nils, .nils] [(0, 1, .t 7)]),
        .h (some 4) none (.alloc [.nils, .nils]),
        .h none none (.store 2 (.t 4) (.t 8))])
      (.seq
        (.seq
          (.reg [.l (some 9) false none (.faddr 1 (.t 1)),
            .l (some 10) false none (.load 1 false (.t 9)),
            .l (some 11) false none (.len false (.t 10)),
            .l (some 12) false none (.bin .eql (.t 11) (.c (.i .i64 0)))])
          (.cond (.t 12)
            (.seq
              (.reg [.l (some 13) false none (.load 2 true (.t 4)),
                .h none none (.store 2 (.t 2) (.t 13)),
                .l (some 3) false none (.mv (.c (.i .i64 0)))])
              .ret)
            .skip))
        (.seq
          (.reg [.l (some 14) false none (.faddr 1 (.t 1)),
            .l (some 15) false none (.load 1 false (.t 14)),
            .l (some 16) false none (.slc 1 (.t 15) (some (.c (.i .i64 1))) none),
            .h (some 17) none (.call (.c (.fn (.func 37) [] [])) [.t 16]),
            .l (some 18) false none (.faddr 1 (.t 4)),
            .h none none (.store 1 (.t 18) (.t 17))])
          (.seq
            (.dreg (.light 0 (.l (some 19) false none (.load 2 true (.t 4))) <|
              (.light 1 (.l (some 20) false none (.faddr 1 (.t 1))) <|
              (.light 2 (.l (some 21) false none (.load 1 false (.t 20))) <|
              (.light 3 (.l (some 22) false none (.iaddr 1 (.t 21) (.c (.i .i64 0)))) <|
              (.light 4 (.l (some 23) false none (.load 1 false (.t 22))) <|
              (.heavy 5 [1, 2, 3, 4] (.h none none (.store 2 (.t 2) (.t 19)))
              (.light 6 (.l (some 3) false none (.mv (.t 23))) <|
              .fin)
              .nil)))))))
            .ret)))))
def r26 : List MR := [.cell 2 2 true, .t 3]
theorem is26 : FnIs Try.prog 26 24 m26 r26 := ⟨by kernel_rfl, Try.f26, _, Try.func26, rfl, by decide, rfl, by kernel_rfl, by kernel_rfl⟩

-- hibernacle/shelf.find
def m27 : MC :=
  (.seq
    (.reg [.h (some 2) none (.box (.t 0)),
      .l (some 4) false none (.mv (.c (.i .i64 0))),
      .l (some 5) false none (.mv (.c (.ff)))])
    (.seq
      (.reg [.l (some 6) false none (.faddr 0 (.t 2)),
        .l (some 7) false none (.load 1 false (.t 6)),
        .l (some 8) false none (.mv (.t 1)),
        .h (some 9) none (.call (.c (.fn (.func 38) [] [])) [.t 7, .t 8, .c (.fn (.func 39) [] [])]),
        .l (some 10) false none (.ext (.t 9) 0),
        .l (some 11) false none (.ext (.t 9) 1),
        .l (some 4) false none (.mv (.t 10)),
        .l (some 5) false none (.mv (.t 11))])
      .ret))
def r27 : List MR := [.t 4, .t 5]
theorem is27 : FnIs Try.prog 27 12 m27 r27 := ⟨by kernel_rfl, Try.f27, _, Try.func27, rfl, by decide, rfl, by kernel_rfl, by kernel_rfl⟩

-- hibernacle/shelf.flipped
def m28 : MC :=
  (.seq
    (.reg [.l (some 2) false none (.mv (.c (.s ⟨#[]⟩)))])
    (.seq
      (.seq
        (.reg [.l (some 4) false none (.mv (.t 0)),
          .l (some 5) false none (.bin .eql (.t 4) (.c (.s ⟨#[]⟩)))])
        (.cond (.t 5)
          (.seq
            (.reg [.l (some 2) false none (.mv (.c (.s ⟨#[]⟩)))])
            .ret)
          .skip))
      (.seq
        (.reg [.l (some 6) false none (.mv (.t 0)),
          .l (some 7) false none (.len true (.t 6)),
          .l (some 8) false none (.bin .sub (.t 7) (.c (.i .i64 1))),
          .l (some 3) false none (.mv (.t 8))])
        (.seq
          (.dreg (.light 0 (.l (some 9) false none (.mv (.t 0))) <|
            (.light 1 (.l (some 10) false none (.mv (.t 3))) <|
            (.light 2 (.l (some 11) false none (.slcS (.t 9) none (some (.t 10)))) <|
            (.light 3 (.l (some 12) false none (.mv (.t 0))) <|
            (.light 4 (.l (some 13) false none (.mv (.t 3))) <|
            (.light 5 (.l (some 14) false none (.idxS (.t 12) (.t 13))) <|
            (.light 6 (.l (some 15) false none (.bin .xor (.t 14) (.c (.i .u8 1)))) <|
            (.heavy 7 [0, 1, 2] (.h (some 16) none (.bslice 1 1 [.i .u8 0] [(0, 1, .t 15)]))
            (.light 8 (.l (some 17) false none (.b2s (.t 16))) <|
            (.light 9 (.l (some 18) false none (.bin .add (.t 11) (.t 17))) <|
            (.light 10 (.l (some 2) false none (.mv (.t 18))) <|
            .fin)))
            .nil)))))))))
          .ret))))
def r28 : List MR := [.t 2]
theorem is28 : FnIs Try.prog 28 19 m28 r28 := ⟨by kernel_rfl, Try.f28, _, Try.func28, rfl, by decide, rfl, by kernel_rfl, by kernel_rfl⟩

-- slices.Insert[[]hibernacle/api.Obj,hibernacle/api.Obj]
def m29 : MC :=
  (.seq
    (.reg [.l (some 6) false none (.mv (.c (.nils)))])
    (.seq
      (.reg [.l (some 10) false none (.mv (.t 0)),
        .l (some 11) false none (.mv (.t 1)),
        .l (some 12) false none (.slc 4 (.t 10) (some (.t 11)) none)])
      (.seq
        (.reg [.l (some 13) false none (.mv (.t 2)),
          .l (some 14) false none (.len false (.t 13)),
          .l (some 7) false none (.mv (.t 14))])
        (.seq
          (.seq
            (.reg [.l (some 15) false none (.mv (.t 7)),
              .l (some 16) false none (.bin .eql (.t 15) (.c (.i .i64 0)))])
            (.cond (.t 16)
              (.seq
                (.reg [.l (some 17) false none (.mv (.t 0)),
                  .l (some 6) false none (.mv (.t 17))])
                .ret)
              .skip))
          (.seq
            (.reg [.l (some 18) false none (.mv (.t 0)),
              .l (some 19) false none (.len false (.t 18)),
              .l (some 8) false none (.mv (.t 19))])
            (.seq
              (.seq
                (.reg [.l (some 20) false none (.mv (.t 1)),
                  .l (some 21) false none (.mv (.t 8)),
                  .l (some 22) false none (.bin .eql (.t 20) (.t 21))])
                (.cond (.t 22)
                  (.seq
                    (.reg [.l (some 23) false none (.mv (.t 0)),
                      .l (some 24) false none (.mv (.t 2)),
                      .h (some 25) none (.app 4 56 (.t 23) (.t 24)),
                      .l (some 6) false none (.mv (.t 25))])
                    .ret)
                  .skip))
              (.seq
                (.seq
                  (.reg [.l (some 26) false none (.mv (.t 8)),
                    .l (some 27) false none (.mv (.t 7)),
                    .l (some 28) false none (.bin .add (.t 26) (.t 27)),
                    .l (some 29) false none (.mv (.t 0)),
                    .l (some 30) false none (.cap (.t 29)),
                    .l (some 31) false none (.bin .gtr (.t 28) (.t 30))])
                  (.cond (.t 31)
                    (.seq
                      (.reg [.l (some 32) false none (.mv (.t 0)),
                        .l (some 33) false none (.mv (.t 1)),
                        .l (some 34) false none (.slc 4 (.t 32) none (some (.t 33))),
                        .l (some 35) false none (.mv (.t 8)),
                        .l (some 36) false none (.mv (.t 7)),
                        .l (some 37) false none (.bin .add (.t 35) (.t 36)),
                        .l (some 38) false none (.mv (.t 1)),
                        .l (some 39) false none (.bin .sub (.t 37) (.t 38)),
                        .h (some 40) none (.appz 4 56 [.s ⟨#[]⟩, .s ⟨#[]⟩, .s ⟨#[]⟩, .ff] (.t 34) (.t 39)),
                        .l (some 9) false none (.mv (.t 40))])
                      (.seq
                        (.reg [.l (some 41) false none (.mv (.t 9)),
                          .l (some 42) false none (.mv (.t 1)),
                          .l (some 43) false none (.slc 4 (.t 41) (some (.t 42)) none),
                          .l (some 44) false none (.mv (.t 2)),
                          .h (some 45) none (.copy 4 (.t 43) (.t 44))])
                        (.seq
                          (.dreg (.light 0 (.l (some 46) false none (.mv (.t 9))) <|
                            (.light 1 (.l (some 47) false none (.mv (.t 1))) <|
                            (.light 2 (.l (some 48) false none (.mv (.t 7))) <|
                            (.light 3 (.l (some 49) false none (.bin .add (.t 47) (.t 48))) <|
                            (.light 4 (.l (some 50) false none (.slc 4 (.t 46) (some (.t 49)) none)) <|
                            (.light 5 (.l (some 51) false none (.mv (.t 0))) <|
                            (.light 6 (.l (some 52) false none (.mv (.t 1))) <|
                            (.light 7 (.l (some 53) false none (.slc 4 (.t 51) (some (.t 52)) none)) <|
                            (.heavy 8 [] (.h (some 54) none (.copy 4 (.t 50) (.t 53)))
                            .fin
                            .nil))))))))))
                          (.seq
                            (.reg [.l (some 55) false none (.mv (.t 9)),
                              .l (some 6) false none (.mv (.t 55))])
                            .ret))))
                    .skip))
                (.seq
                  (.reg [.l (some 56) false none (.mv (.t 0)),
                    .l (some 57) false none (.mv (.t 8)),
                    .l (some 58) false none (.mv (.t 7)),
                    .l (some 59) false none (.bin .add (.t 57) (.t 58)),
                    .l (some 60) false none (.slc 4 (.t 56) none (some (.t 59))),
                    .l (some 0) false none (.mv (.t 60))])
                  (.seq
                    (.seq
                      (.reg [.l (some 61) false none (.mv (.t 2)),
                        .l (some 62) false none (.mv (.t 0)),
                        .l (some 63) false none (.mv (.t 1)),
                        .l (some 64) false none (.mv (.t 7)),
                        .l (some 65) false none (.bin .add (.t 63) (.t 64)),
                        .l (some 66) false none (.slc 4 (.t 62) (some (.t 65)) none),
                        .h (some 67) none (.call (.c (.fn (.func 41) [] [])) [.t 61, .t 66]),
                        .l (some 68) false none (.un .not (.t 67))])
                      (.cond (.t 68)
                        (.seq
                          (.dreg (.light 0 (.l (some 69) false none (.mv (.t 0))) <|
                            (.light 1 (.l (some 70) false none (.mv (.t 1))) <|
                            (.light 2 (.l (some 71) false none (.mv (.t 7))) <|
                            (.light 3 (.l (some 72) false none (.bin .add (.t 70) (.t 71))) <|
                            (.light 4 (.l (some 73) false none (.slc 4 (.t 69) (some (.t 72)) none)) <|
                            (.light 5 (.l (some 74) false none (.mv (.t 0))) <|
                            (.light 6 (.l (some 75) false none (.mv (.t 1))) <|
                            (.light 7 (.l (some 76) false none (.slc 4 (.t 74) (some (.t 75)) none)) <|
                            (.heavy 8 [] (.h (some 77) none (.copy 4 (.t 73) (.t 76)))
                            .fin
                            .nil))))))))))
                          (.seq
                            (.reg [.l (some 78) false none (.mv (.t 0)),
                              .l (some 79) false none (.mv (.t 1)),
                              .l (some 80) false none (.slc 4 (.t 78) (some (.t 79)) none),
                              .l (some 81) false none (.mv (.t 2)),
                              .h (some 82) none (.copy 4 (.t 80) (.t 81))])
                            (.seq
                              (.reg [.l (some 83) false none (.mv (.t 0)),
                                .l (some 6) false none (.mv (.t 83))])
                              .ret)))
                        .skip))
                    (.seq
                      (.reg [.l (some 84) false none (.mv (.t 0)),
                        .l (some 85) false none (.mv (.t 8)),
                        .l (some 86) false none (.slc 4 (.t 84) (some (.t 85)) none),
                        .l (some 87) false none (.mv (.t 2)),
                        .h (some 88) none (.copy 4 (.t 86) (.t 87))])
                      (.seq
                        (.reg [.l (some 89) false none (.mv (.t 0)),
                          .l (some 90) false none (.mv (.t 1)),
                          .l (some 91) false none (.slc 4 (.t 89) (some (.t 90)) none),
                          .l (some 92) false none (.mv (.t 7)),
                          .h (some 93) none (.call (.c (.fn (.func 42) [] [])) [.t 91, .t 92])])
                        (.seq
                          (.reg [.l (some 94) false none (.mv (.t 0)),
                            .l (some 6) false none (.mv (.t 94))])
                          .ret))))))))))))
def r29 : List MR := [.t 6]
theorem is29 : FnIs Try.prog 29 95 m29 r29 := ⟨by kernel_rfl, Try.f29, _, Try.func29, rfl, by decide, rfl, by kernel_rfl, by kernel_rfl⟩

-- strings.HasPrefix
def m30 : MC :=
  (.seq
    (.reg [.l (some 4) false none (.mv (.c (.ff)))])
    (.seq
      (.reg [.l (some 5) false none (.mv (.t 0)),
        .l (some 6) false none (.mv (.t 1)),
        .h (some 7) none (.call (.c (.fn (.func 43) [] [])) [.t 5, .t 6]),
        .l (some 4) false none (.mv (.t 7))])
      .ret))
def r30 : List MR := [.t 4]
theorem is30 : FnIs Try.prog 30 8 m30 r30 := ⟨by kernel_rfl, Try.f30, _, Try.func30, rfl, by decide, rfl, by kernel_rfl, by kernel_rfl⟩

-- slices.Delete[[]hibernacle/api.Obj,hibernacle/api.Obj]
def m31 : MC :=
  (.seq
    (.reg [.l (some 6) false none (.mv (.c (.nils)))])
    (.seq
      (.reg [.l (some 8) false none (.mv (.t 0)),
        .l (some 9) false none (.mv (.t 1)),
        .l (some 10) false none (.mv (.t 2)),
        .l (some 11) false none (.mv (.t 0)),
        .l (some 12) false none (.len false (.t 11)),
        .l (some 13) false none (.slc3 4 (.t 8) (some (.t 9)) (some (.t 10)) (.t 12))])
      (.seq
        (.seq
          (.reg [.l (some 14) false none (.mv (.t 1)),
            .l (some 15) false none (.mv (.t 2)),
            .l (some 16) false none (.bin .eql (.t 14) (.t 15))])
          (.cond (.t 16)
            (.seq
              (.reg [.l (some 17) false none (.mv (.t 0)),
                .l (some 6) false none (.mv (.t 17))])
              .ret)
            .skip))
        (.seq
          (.reg [.l (some 18) false none (.mv (.t 0)),
            .l (some 19) false none (.len false (.t 18)),
            .l (some 7) false none (.mv (.t 19))])
          (.seq
            (.dreg (.light 0 (.l (some 20) false none (.mv (.t 0))) <|
              (.light 1 (.l (some 21) false none (.mv (.t 1))) <|
              (.light 2 (.l (some 22) false none (.slc 4 (.t 20) none (some (.t 21)))) <|
              (.light 3 (.l (some 23) false none (.mv (.t 0))) <|
              (.light 4 (.l (some 24) false none (.mv (.t 2))) <|
              (.light 5 (.l (some 25) false none (.slc 4 (.t 23) (some (.t 24)) none)) <|
              (.heavy 6 [] (.h (some 26) none (.app 4 56 (.t 22) (.t 25)))
              (.light 7 (.l (some 0) false none (.mv (.t 26))) <|
              .fin)
              .nil))))))))
            (.seq
              (.reg [.l (some 27) false none (.mv (.t 0)),
                .l (some 28) false none (.mv (.t 0)),
                .l (some 29) false none (.len false (.t 28)),
                .l (some 30) false none (.mv (.t 7)),
                .l (some 31) false none (.slc 4 (.t 27) (some (.t 29)) (some (.t 30))),
                .h none none (.clear 4 [.s ⟨#[]⟩, .s ⟨#[]⟩, .s ⟨#[]⟩, .ff] (.t 31))])
              (.seq
                (.reg [.l (some 32) false none (.mv (.t 0)),
                  .l (some 6) false none (.mv (.t 32))])
                .ret)))))))
def r31 : List MR := [.t 6]
theorem is31 : FnIs Try.prog 31 33 m31 r31 := ⟨by kernel_rfl, Try.f31, _, Try.func31, rfl, by decide, rfl, by kernel_rfl, by kernel_rfl⟩

-- hibernacle/hibernacleref36.fate
def m32 : MC :=
  (.seq
    (.reg [.h (some 1) none (.box (.t 0)),
      .h (some 2) none (.alloc [.nils, .nils]),
      .l (some 3) false none (.mv (.c (.i .i64 0)))])
    (.seq
      (.seq
        (.reg [.l (some 5) false none (.faddr 1 (.t 1)),
          .l (some 6) false none (.load 1 false (.t 5)),
          .l (some 7) false none (.len false (.t 6)),
          .l (some 8) false none (.bin .eql (.t 7) (.c (.i .i64 0)))])
        (.cond (.t 8)
          (.seq
            (.reg [.l (some 9) false none (.load 2 true (.t 1)),
              .h none none (.store 2 (.t 2) (.t 9)),
              .l (some 3) false none (.mv (.c (.i .i64 0)))])
            .ret)
          .skip))
      (.seq
        (.reg [.l (some 10) false none (.faddr 1 (.t 1)),
          .l (some 11) false none (.load 1 false (.t 10)),
          .l (some 12) false none (.iaddr 1 (.t 11) (.c (.i .i64 0))),
          .l (some 13) false none (.load 1 false (.t 12)),
          .l (some 4) false none (.mv (.t 13))])
        (.seq
          (.reg [.l (some 14) false none (.faddr 1 (.t 1)),
            .l (some 15) false none (.load 1 false (.t 14)),
            .l (some 16) false none (.slc 1 (.t 15) (some (.c (.i .i64 1))) none),
            .l (some 17) false none (.faddr 1 (.t 1)),
            .h none none (.store 1 (.t 17) (.t 16))])
          (.seq
            (.seq
              (.reg [.l (some 18) false none (.mv (.t 4)),
                .l (some 19) false none (.bin .lss (.t 18) (.c (.i .i64 0))),
                .l (some 20) true none (.mv (.t 19)),
                .l (some 21) false (some (20, false)) (.mv (.t 4)),
                .l (some 22) false (some (20, false)) (.bin .gtr (.t 21) (.c (.i .i64 4))),
                .l (some 23) false none (.pick (.t 20) (.c (.tt)) (.t 22))])
              (.cond (.t 23)
                (.reg [.l (some 4) false none (.mv (.c (.i .i64 0)))])
                .skip))
            (.seq
              (.reg [.l (some 24) false none (.load 2 true (.t 1)),
                .l (some 25) false none (.mv (.t 4)),
                .h none none (.store 2 (.t 2) (.t 24)),
                .l (some 3) false none (.mv (.t 25))])
              .ret))))))
def r32 : List MR := [.cell 2 2 true, .t 3]
theorem is32 : FnIs Try.prog 32 26 m32 r32 := ⟨by kernel_rfl, Try.f32, _, Try.func32, rfl, by decide, rfl, by kernel_rfl, by kernel_rfl⟩

-- hibernacle/hibernacleref36.flipped
def m33 : MC :=
  (.seq
    (.reg [.l (some 2) false none (.mv (.c (.s ⟨#[]⟩)))])
    (.seq
      (.seq
        (.reg [.l (some 4) false none (.mv (.t 0)),
          .l (some 5) false none (.bin .eql (.t 4) (.c (.s ⟨#[]⟩)))])
        (.cond (.t 5)
          (.seq
            (.reg [.l (some 6) false none (.mv (.t 0)),
              .l (some 2) false none (.mv (.t 6))])
            .ret)
          .skip))
      (.seq
        (.reg [.l (some 7) false none (.mv (.t 0)),
          .l (some 8) false none (.mv (.t 0)),
          .l (some 9) false none (.len true (.t 8)),
          .l (some 10) false none (.bin .sub (.t 9) (.c (.i .i64 1))),
          .l (some 11) false none (.idxS (.t 7) (.t 10)),
          .l (some 3) false none (.mv (.t 11))])
        (.seq
          (.seq
            (.reg [.l (some 12) false none (.mv (.t 3)),
              .l (some 13) false none (.bin .rem (.t 12) (.c (.i .u8 2))),
              .l (some 14) false none (.bin .eql (.t 13) (.c (.i .u8 1)))])
            (.cond (.t 14)
              (.reg [.l (some 15) false none (.mv (.t 3)),
                .l (some 16) false none (.bin .sub (.t 15) (.c (.i .u8 1))),
                .l (some 3) false none (.mv (.t 16))])
              (.reg [.l (some 17) false none (.mv (.t 3)),
                .l (some 18) false none (.bin .add (.t 17) (.c (.i .u8 1))),
                .l (some 3) false none (.mv (.t 18))])))
          (.seq
            (.dreg (.light 0 (.l (some 19) false none (.mv (.t 0))) <|
              (.light 1 (.l (some 20) false none (.mv (.t 0))) <|
              (.light 2 (.l (some 21) false none (.len true (.t 20))) <|
              (.light 3 (.l (some 22) false none (.bin .sub (.t 21) (.c (.i .i64 1)))) <|
              (.light 4 (.l (some 23) false none (.slcS (.t 19) none (some (.t 22)))) <|
              (.light 5 (.l (some 24) false none (.mv (.t 3))) <|
              (.heavy 6 [0, 1, 2, 3, 4] (.h (some 25) none (.bslice 1 1 [.i .u8 0] [(0, 1, .t 24)]))
              (.light 7 (.l (some 26) false none (.b2s (.t 25))) <|
              (.light 8 (.l (some 27) false none (.bin .add (.t 23) (.t 26))) <|
              (.light 9 (.l (some 2) false none (.mv (.t 27))) <|
              .fin)))
              .nil))))))))
            .ret)))))
def r33 : List MR := [.t 2]
theorem is33 : FnIs Try.prog 33 28 m33 r33 := ⟨by kernel_rfl, Try.f33, _, Try.func33, rfl, by decide, rfl, by kernel_rfl, by kernel_rfl⟩

-- hibernacle/hibernacleref36.find
def m34 : MC :=
  (.seq
    (.reg [.h (some 2) none (.box (.t 0)),
      .h (some 4) none (.alloc [.s ⟨#[]⟩, .s ⟨#[]⟩, .s ⟨#[]⟩, .ff]),
      .l (some 5) false none (.mv (.c (.ff)))])
    (.seq
      (.seq
        (.reg [.l (some 7) false none (.faddr 0 (.t 2)),
          .l (some 8) false none (.load 1 false (.t 7)),
          .l (some 9) false none (.len false (.t 8)),
          .l (some 10) false none (.mv (.c (.i .i64 0)))])
        (.block 0
          (.loop
            (.seq
              (.reg [.l (some 11) false none (.bin .lss (.t 10) (.t 9))])
              (.seq
                (.cond (.t 11)
                  .skip
                  (.exit 0))
                (.seq
                  (.block 1
                    (.seq
                      (.reg [.l (some 12) false none (.mv (.t 10)),
                        .l (some 6) false none (.mv (.t 12))])
                      (.seq
                        (.reg [.l (some 13) false none (.faddr 0 (.t 2)),
                          .l (some 14) false none (.load 1 false (.t 13)),
                          .l (some 15) false none (.mv (.t 6)),
                          .l (some 16) false none (.iaddr 4 (.t 14) (.t 15)),
                          .l (some 17) false none (.faddr 0 (.t 16)),
                          .l (some 18) false none (.load 1 false (.t 17)),
                          .l (some 19) false none (.mv (.t 1)),
                          .l (some 20) false none (.bin .eql (.t 18) (.t 19))])
                        (.cond (.t 20)
                          (.seq
                            (.reg [.l (some 21) false none (.faddr 0 (.t 2)),
                              .l (some 22) false none (.load 1 false (.t 21)),
                              .l (some 23) false none (.mv (.t 6)),
                              .l (some 24) false none (.iaddr 4 (.t 22) (.t 23)),
                              .l (some 25) false none (.load 4 true (.t 24)),
                              .h none none (.store 4 (.t 4) (.t 25)),
                              .l (some 5) false none (.mv (.c (.tt)))])
                            .ret)
                          .skip))))
                  (.reg [.l (some 26) false none (.bin .add (.t 10) (.c (.i .i64 1))),
                    .l (some 10) false none (.mv (.t 26))])))))))
      (.seq
        (.reg [.l (some 27) false none (.build [.s ⟨#[]⟩, .s ⟨#[]⟩, .s ⟨#[]⟩, .ff] []),
          .h none none (.store 4 (.t 4) (.t 27)),
          .l (some 5) false none (.mv (.c (.ff)))])
        .ret)))
def r34 : List MR := [.cell 4 4 true, .t 5]
theorem is34 : FnIs Try.prog 34 28 m34 r34 := ⟨by kernel_rfl, Try.f34, _, Try.func34, rfl, by decide, rfl, by kernel_rfl, by kernel_rfl⟩

-- hibernacle/hibernacleref36.without
def m35 : MC :=
  (.seq
    (.reg [.h (some 4) none (.box (.t 0)),
      .h (some 7) none (.box (.t 3)),
      .h (some 8) none (.alloc [.nils, .nils])])
    (.seq
      (.reg [.h (some 12) none (.bslice 4 0 [.s ⟨#[]⟩, .s ⟨#[]⟩, .s ⟨#[]⟩, .ff] []),
        .l (some 9) false none (.mv (.t 12))])
      (.seq
        (.seq
          (.reg [.l (some 13) false none (.faddr 0 (.t 4)),
            .l (some 14) false none (.load 1 false (.t 13)),
            .l (some 15) false none (.len false (.t 14)),
            .l (some 16) false none (.mv (.c (.i .i64 0)))])
          (.block 0
            (.loop
              (.seq
                (.reg [.l (some 17) false none (.bin .lss (.t 16) (.t 15))])
                (.seq
                  (.cond (.t 17)
                    .skip
                    (.exit 0))
                  (.seq
                    (.block 1
                      (.seq
                        (.reg [.l (some 18) false none (.mv (.t 16)),
                          .l (some 10) false none (.mv (.t 18))])
                        (.seq
                          (.reg [.l (some 19) false none (.faddr 0 (.t 4)),
                            .l (some 20) false none (.load 1 false (.t 19)),
                            .l (some 21) false none (.mv (.t 10)),
                            .l (some 22) false none (.iaddr 4 (.t 20) (.t 21)),
                            .l (some 23) false none (.faddr 0 (.t 22)),
                            .l (some 24) false none (.load 1 false (.t 23)),
                            .l (some 25) false none (.mv (.t 1)),
                            .l (some 26) false none (.bin .lss (.t 24) (.t 25))])
                          (.cond (.t 26)
                            (.reg [.l (some 27) false none (.mv (.t 9)),
                              .l (some 28) false none (.faddr 0 (.t 4)),
                              .l (some 29) false none (.load 1 false (.t 28)),
                              .l (some 30) false none (.mv (.t 10)),
                              .l (some 31) false none (.iaddr 4 (.t 29) (.t 30)),
                              .l (some 32) false none (.load 4 true (.t 31)),
                              .h (some 33) none (.bslice 4 1 [.s ⟨#[]⟩, .s ⟨#[]⟩, .s ⟨#[]⟩, .ff] [(0, 4, .t 32)]),
                              .h (some 34) none (.app 4 56 (.t 27) (.t 33)),
                              .l (some 9) false none (.mv (.t 34))])
                            .skip))))
                    (.reg [.l (some 35) false none (.bin .add (.t 16) (.c (.i .i64 1))),
                      .l (some 16) false none (.mv (.t 35))])))))))
        (.seq
          (.seq
            (.reg [.l (some 36) false none (.mv (.t 2))])
            (.cond (.t 36)
              (.reg [.l (some 37) false none (.mv (.t 9)),
                .l (some 38) false none (.load 4 true (.t 7)),
                .h (some 39) none (.bslice 4 1 [.s ⟨#[]⟩, .s ⟨#[]⟩, .s ⟨#[]⟩, .ff] [(0, 4, .t 38)]),
                .h (some 40) none (.app 4 56 (.t 37) (.t 39)),
                .l (some 9) false none (.mv (.t 40))])
              .skip))
          (.seq
            (.seq
              (.reg [.l (some 41) false none (.faddr 0 (.t 4)),
                .l (some 42) false none (.load 1 false (.t 41)),
                .l (some 43) false none (.len false (.t 42)),
                .l (some 44) false none (.mv (.c (.i .i64 0)))])
              (.block 2
                (.loop
                  (.seq
                    (.reg [.l (some 45) false none (.bin .lss (.t 44) (.t 43))])
                    (.seq
                      (.cond (.t 45)
                        .skip
                        (.exit 2))
                      (.seq
                        (.block 3
                          (.seq
                            (.reg [.l (some 46) false none (.mv (.t 44)),
                              .l (some 11) false none (.mv (.t 46))])
                            (.seq
                              (.reg [.l (some 47) false none (.faddr 0 (.t 4)),
                                .l (some 48) false none (.load 1 false (.t 47)),
                                .l (some 49) false none (.mv (.t 11)),
                                .l (some 50) false none (.iaddr 4 (.t 48) (.t 49)),
                                .l (some 51) false none (.faddr 0 (.t 50)),
                                .l (some 52) false none (.load 1 false (.t 51)),
                                .l (some 53) false none (.mv (.t 1)),
                                .l (some 54) false none (.bin .gtr (.t 52) (.t 53))])
                              (.cond (.t 54)
                                (.reg [.l (some 55) false none (.mv (.t 9)),
                                  .l (some 56) false none (.faddr 0 (.t 4)),
                                  .l (some 57) false none (.load 1 false (.t 56)),
                                  .l (some 58) false none (.mv (.t 11)),
                                  .l (some 59) false none (.iaddr 4 (.t 57) (.t 58)),
                                  .l (some 60) false none (.load 4 true (.t 59)),
                                  .h (some 61) none (.bslice 4 1 [.s ⟨#[]⟩, .s ⟨#[]⟩, .s ⟨#[]⟩, .ff] [(0, 4, .t 60)]),
                                  .h (some 62) none (.app 4 56 (.t 55) (.t 61)),
                                  .l (some 9) false none (.mv (.t 62))])
                                .skip))))
                        (.reg [.l (some 63) false none (.bin .add (.t 44) (.c (.i .i64 1))),
                          .l (some 44) false none (.mv (.t 63))])))))))
            (.seq
              (.reg [.l (some 64) false none (.mv (.t 9)),
                .l (some 65) false none (.faddr 0 (.t 4)),
                .h none none (.store 1 (.t 65) (.t 64))])
              (.seq
                (.reg [.l (some 66) false none (.load 2 true (.t 4)),
                  .h none none (.store 2 (.t 8) (.t 66))])
                .ret)))))))
def r35 : List MR := [.cell 8 2 true]
theorem is35 : FnIs Try.prog 35 67 m35 r35 := ⟨by kernel_rfl, Try.f35, _, Try.func35, rfl, by decide, rfl, by kernel_rfl, by kernel_rfl⟩

-- slices.Clone[[]hibernacle/api.Obj,hibernacle/api.Obj]
def m36 : MC :=
  (.seq
    (.reg [.l (some 2) false none (.mv (.c (.nils)))])
    (.seq
      (.seq
        (.reg [.l (some 3) false none (.mv (.t 0)),
          .h (some 4) none (.eqn false (.t 3))])
        (.cond (.t 4)
          (.seq
            (.reg [.l (some 2) false none (.mv (.c (.nils)))])
            .ret)
          .skip))
      (.seq
        (.reg [.h (some 5) none (.bslice 4 0 [.s ⟨#[]⟩, .s ⟨#[]⟩, .s ⟨#[]⟩, .ff] []),
          .l (some 6) false none (.mv (.t 0)),
          .h (some 7) none (.app 4 56 (.t 5) (.t 6)),
          .l (some 2) false none (.mv (.t 7))])
        .ret)))
def r36 : List MR := [.t 2]
theorem is36 : FnIs Try.prog 36 8 m36 r36 := ⟨by kernel_rfl, Try.f36, _, Try.func36, rfl, by decide, rfl, by kernel_rfl, by kernel_rfl⟩

-- slices.Clone[[]int,int]
def m37 : MC :=
  (.seq
    (.reg [.l (some 2) false none (.mv (.c (.nils)))])
    (.seq
      (.seq
        (.reg [.l (some 3) false none (.mv (.t 0)),
          .h (some 4) none (.eqn false (.t 3))])
        (.cond (.t 4)
          (.seq
            (.reg [.l (some 2) false none (.mv (.c (.nils)))])
            .ret)
          .skip))
      (.seq
        (.reg [.h (some 5) none (.bslice 1 0 [.i .i64 0] []),
          .l (some 6) false none (.mv (.t 0)),
          .h (some 7) none (.app 1 8 (.t 5) (.t 6)),
          .l (some 2) false none (.mv (.t 7))])
        .ret)))
def r37 : List MR := [.t 2]
theorem is37 : FnIs Try.prog 37 8 m37 r37 := ⟨by kernel_rfl, Try.f37, _, Try.func37, rfl, by decide, rfl, by kernel_rfl, by kernel_rfl⟩

-- slices.BinarySearchFunc[[]hibernacle/api.Obj,hibernacle/api.Obj,string]
def m38 : MC :=
  (.seq
    (.reg [.l (some 6) false none (.mv (.c (.i .i64 0))),
      .l (some 7) false none (.mv (.c (.ff)))])
    (.seq
      (.reg [.l (some 12) false none (.mv (.t 0)),
        .l (some 13) false none (.len false (.t 12)),
        .l (some 8) false none (.mv (.t 13))])
      (.seq
        (.reg [.l (some 14) false none (.mv (.t 8)),
          .l (some 9) false none (.mv (.c (.i .i64 0))),
          .l (some 10) false none (.mv (.t 14))])
        (.seq
          (.block 0
            (.loop
              (.seq
                (.seq
                  (.reg [.l (some 15) false none (.mv (.t 9)),
                    .l (some 16) false none (.mv (.t 10)),
                    .l (some 17) false none (.bin .lss (.t 15) (.t 16))])
                  (.cond (.t 17)
                    .skip
                    (.exit 0)))
                (.block 1
                  (.seq
                    (.reg [.l (some 18) false none (.mv (.t 9)),
                      .l (some 19) false none (.mv (.t 10)),
                      .l (some 20) false none (.bin .add (.t 18) (.t 19)),
                      .l (some 21) false none (.conv .u64 (.t 20)),
                      .l (some 22) false none (.bin .shr (.t 21) (.c (.i .u64 1))),
                      .l (some 23) false none (.conv .i64 (.t 22)),
                      .l (some 11) false none (.mv (.t 23))])
                    (.seq
                      (.reg [.l (some 24) false none (.mv (.t 2)),
                        .l (some 25) false none (.mv (.t 0)),
                        .l (some 26) false none (.mv (.t 11)),
                        .l (some 27) false none (.iaddr 4 (.t 25) (.t 26)),
                        .l (some 28) false none (.load 4 true (.t 27)),
                        .l (some 29) false none (.mv (.t 1)),
                        .h (some 30) none (.call (.t 24) [.t 28, .t 29]),
                        .l (some 31) false none (.bin .lss (.t 30) (.c (.i .i64 0)))])
                      (.cond (.t 31)
                        (.reg [.l (some 32) false none (.mv (.t 11)),
                          .l (some 33) false none (.bin .add (.t 32) (.c (.i .i64 1))),
                          .l (some 9) false none (.mv (.t 33))])
                        (.reg [.l (some 34) false none (.mv (.t 11)),
                          .l (some 10) false none (.mv (.t 34))]))))))))
          (.seq
            (.reg [.l (some 35) false none (.mv (.t 9)),
              .l (some 36) false none (.mv (.t 9)),
              .l (some 37) false none (.mv (.t 8)),
              .l (some 38) false none (.bin .lss (.t 36) (.t 37)),
              .l (some 39) true none (.mv (.t 38)),
              .l (some 40) false (some (39, true)) (.mv (.t 2)),
              .l (some 41) false (some (39, true)) (.mv (.t 0)),
              .l (some 42) false (some (39, true)) (.mv (.t 9)),
              .l (some 43) false (some (39, true)) (.iaddr 4 (.t 41) (.t 42)),
              .l (some 44) false (some (39, true)) (.load 4 true (.t 43)),
              .l (some 45) false (some (39, true)) (.mv (.t 1)),
              .h (some 46) (some (39, true)) (.call (.t 40) [.t 44, .t 45]),
              .l (some 47) false (some (39, true)) (.bin .eql (.t 46) (.c (.i .i64 0))),
              .l (some 48) false none (.pick (.t 39) (.t 47) (.c (.ff))),
              .l (some 6) false none (.mv (.t 35)),
              .l (some 7) false none (.mv (.t 48))])
            .ret)))))
def r38 : List MR := [.t 6, .t 7]
theorem is38 : FnIs Try.prog 38 49 m38 r38 := ⟨by kernel_rfl, Try.f38, _, Try.func38, rfl, by decide, rfl, by kernel_rfl, by kernel_rfl⟩

-- hibernacle/shelf.find$1
def m39 : MC :=
  (.seq
    (.reg [.h (some 2) none (.box (.t 0)),
      .l (some 4) false none (.mv (.c (.i .i64 0)))])
    (.seq
      (.reg [.l (some 5) false none (.faddr 0 (.t 2)),
        .l (some 6) false none (.load 1 false (.t 5)),
        .l (some 7) false none (.mv (.t 1)),
        .h (some 8) none (.call (.c (.fn (.func 40) [] [])) [.t 6, .t 7]),
        .l (some 4) false none (.mv (.t 8))])
      .ret))
def r39 : List MR := [.t 4]
theorem is39 : FnIs Try.prog 39 9 m39 r39 := ⟨by kernel_rfl, Try.f39, _, Try.func39, rfl, by decide, rfl, by kernel_rfl, by kernel_rfl⟩

-- strings.Compare
def m40 : MC :=
  (.seq
    (.reg [.l (some 4) false none (.mv (.c (.i .i64 0)))])
    (.seq
      (.reg [.l (some 5) false none (.mv (.t 0)),
        .l (some 6) false none (.mv (.t 1)),
        .h (some 7) none (.call (.c (.fn (.func 44) [] [])) [.t 5, .t 6]),
        .l (some 4) false none (.mv (.t 7))])
      .ret))
def r40 : List MR := [.t 4]
theorem is40 : FnIs Try.prog 40 8 m40 r40 := ⟨by kernel_rfl, Try.f40, _, Try.func40, rfl, by decide, rfl, by kernel_rfl, by kernel_rfl⟩

-- slices.rotateRight[hibernacle/api.Obj]
def m42 : MC :=
  (.reg [.l (some 4) false none (.mv (.t 0)),
    .l (some 5) false none (.mv (.t 0)),
    .l (some 6) false none (.len false (.t 5)),
    .l (some 7) false none (.mv (.t 1)),
    .l (some 8) false none (.bin .sub (.t 6) (.t 7)),
    .h (some 9) none (.call (.c (.fn (.func 45) [] [])) [.t 4, .t 8])])
def r42 : List MR := []
theorem is42 : FnIs Try.prog 42 10 m42 r42 := ⟨by kernel_rfl, Try.f42, _, Try.func42, rfl, by decide, rfl, by kernel_rfl, by kernel_rfl⟩

-- internal/stringslite.HasPrefix
def m43 : MC :=
  (.seq
    (.reg [.l (some 4) false none (.mv (.c (.ff)))])
    (.seq
      (.reg [.l (some 5) false none (.mv (.t 0)),
        .l (some 6) false none (.len true (.t 5)),
        .l (some 7) false none (.mv (.t 1)),
        .l (some 8) false none (.len true (.t 7)),
        .l (some 9) false none (.bin .geq (.t 6) (.t 8)),
        .l (some 10) true none (.mv (.t 9)),
        .l (some 11) false (some (10, true)) (.mv (.t 0)),
        .l (some 12) false (some (10, true)) (.mv (.t 1)),
        .l (some 13) false (some (10, true)) (.len true (.t 12)),
        .l (some 14) false (some (10, true)) (.slcS (.t 11) none (some (.t 13))),
        .l (some 15) false (some (10, true)) (.mv (.t 1)),
        .l (some 16) false (some (10, true)) (.bin .eql (.t 14) (.t 15)),
        .l (some 17) false none (.pick (.t 10) (.t 16) (.c (.ff))),
        .l (some 4) false none (.mv (.t 17))])
      .ret))
def r43 : List MR := [.t 4]
theorem is43 : FnIs Try.prog 43 18 m43 r43 := ⟨by kernel_rfl, Try.f43, _, Try.func43, rfl, by decide, rfl, by kernel_rfl, by kernel_rfl⟩

-- internal/bytealg.CompareString
def m44 : MC :=
  (.seq
    (.reg [.l (some 4) false none (.mv (.c (.i .i64 0)))])
    (.seq
      (.reg [.l (some 5) false none (.mv (.t 0)),
        .l (some 6) false none (.mv (.t 1)),
        .h (some 7) none (.call (.c (.fn (.func 46) [] [])) [.t 5, .t 6]),
        .l (some 4) false none (.mv (.t 7))])
      .ret))
def r44 : List MR := [.t 4]
theorem is44 : FnIs Try.prog 44 8 m44 r44 := ⟨by kernel_rfl, Try.f44, _, Try.func44, rfl, by decide, rfl, by kernel_rfl, by kernel_rfl⟩

-- slices.rotateLeft[hibernacle/api.Obj]
def m45 : MC :=
  (.seq
    (.reg [.l (some 4) false none (.mv (.t 0)),
      .l (some 5) false none (.mv (.t 1)),
      .l (some 6) false none (.slc 4 (.t 4) none (some (.t 5))),
      .h (some 7) none (.call (.c (.fn (.func 47) [] [])) [.t 6])])
    (.seq
      (.reg [.l (some 8) false none (.mv (.t 0)),
        .l (some 9) false none (.mv (.t 1)),
        .l (some 10) false none (.slc 4 (.t 8) (some (.t 9)) none),
        .h (some 11) none (.call (.c (.fn (.func 47) [] [])) [.t 10])])
      (.reg [.l (some 12) false none (.mv (.t 0)),
        .h (some 13) none (.call (.c (.fn (.func 47) [] [])) [.t 12])])))
def r45 : List MR := []
theorem is45 : FnIs Try.prog 45 14 m45 r45 := ⟨by kernel_rfl, Try.f45, _, Try.func45, rfl, by decide, rfl, by kernel_rfl, by kernel_rfl⟩

-- slices.Reverse[[]hibernacle/api.Obj,hibernacle/api.Obj]
def m47 : MC :=
  (.seq
    (.reg [.l (some 4) false none (.mv (.t 0)),
      .l (some 5) false none (.len false (.t 4)),
      .l (some 6) false none (.bin .sub (.t 5) (.c (.i .i64 1))),
      .l (some 2) false none (.mv (.c (.i .i64 0))),
      .l (some 3) false none (.mv (.t 6))])
    (.block 0
      (.loop
        (.seq
          (.seq
            (.reg [.l (some 7) false none (.mv (.t 2)),
              .l (some 8) false none (.mv (.t 3)),
              .l (some 9) false none (.bin .lss (.t 7) (.t 8))])
            (.cond (.t 9)
              .skip
              (.exit 0)))
          (.seq
            (.block 1
              (.dreg (.light 0 (.l (some 14) false none (.mv (.t 0))) <|
                (.light 1 (.l (some 15) false none (.mv (.t 2))) <|
                (.light 2 (.l (some 16) false none (.mv (.t 0))) <|
                (.light 3 (.l (some 17) false none (.mv (.t 3))) <|
                (.light 4 (.l (some 18) false none (.mv (.t 0))) <|
                (.light 5 (.l (some 19) false none (.mv (.t 3))) <|
                (.light 6 (.l (some 20) false none (.iaddr 4 (.t 18) (.t 19))) <|
                (.light 7 (.l (some 21) false none (.load 4 true (.t 20))) <|
                (.light 8 (.l (some 22) false none (.mv (.t 0))) <|
                (.light 9 (.l (some 23) false none (.mv (.t 2))) <|
                (.light 10 (.l (some 24) false none (.iaddr 4 (.t 22) (.t 23))) <|
                (.light 11 (.l (some 25) false none (.load 4 true (.t 24))) <|
                (.light 12 (.l (some 26) false none (.iaddr 4 (.t 14) (.t 15))) <|
                (.heavy 13 [2, 3] (.h none none (.store 4 (.t 26) (.t 21)))
                (.light 14 (.l (some 27) false none (.iaddr 4 (.t 16) (.t 17))) <|
                (.heavy 15 [] (.h none none (.store 4 (.t 27) (.t 25)))
                .fin
                .nil))
                .nil))))))))))))))))
            (.reg [.l (some 10) false none (.mv (.t 2)),
              .l (some 11) false none (.bin .add (.t 10) (.c (.i .i64 1))),
              .l (some 12) false none (.mv (.t 3)),
              .l (some 13) false none (.bin .sub (.t 12) (.c (.i .i64 1))),
              .l (some 2) false none (.mv (.t 11)),
              .l (some 3) false none (.mv (.t 13))]))))))
def r47 : List MR := []
theorem is47 : FnIs Try.prog 47 28 m47 r47 := ⟨by kernel_rfl, Try.f47, _, Try.func47, rfl, by decide, rfl, by kernel_rfl, by kernel_rfl⟩

end Go.Proofs.T
