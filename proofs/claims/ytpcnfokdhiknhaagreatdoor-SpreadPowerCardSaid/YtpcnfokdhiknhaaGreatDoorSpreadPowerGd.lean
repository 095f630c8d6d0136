/-
  Parts of the proof: no statement of the seat is proved here.
-/
import Derived.Test.YtpcnfokdhiknhaaGreatDoorSpreadPowerGc
import Derived.Test.YtpcnfokdhiknhaaGreatDoorProg
import Derived.KernelRfl
set_option linter.unusedSimpArgs false
set_option linter.unusedVariables false
set_option linter.unusedSectionVars false

set_option maxRecDepth 100000
namespace Go.Proofs.T
open Go Go.Hb
def m19 : MC :=
 (.seq
 (.reg [.h (some 1) none (.box (.t 0)),
 .l (some 2) false none (.mv (.c (.i .i64 0)))])
 (.seq
 (.seq
 (.reg [.l (some 5) false none (.faddr 0 (.t 1)),
 .l (some 6) false none (.load 1 false (.t 5)),
 .l (some 7) false none (.len false (.t 6)),
 .l (some 8) false none (.mv (.c (.i .i64 0)))])
 (.block 0
 (.loop
 (.seq
 (.reg [.l (some 9) false none (.bin .lss (.t 8) (.t 7))])
 (.seq
 (.cond (.t 9)
 .skip
 (.exit 0))
 (.seq
 (.block 1
 (.seq
 (.reg [.l (some 10) false none (.mv (.t 8)),
 .l (some 3) false none (.mv (.t 10))])
 (.seq
 (.reg [.l (some 11) false none (.faddr 0 (.t 1)),
 .l (some 12) false none (.load 1 false (.t 11)),
 .l (some 13) false none (.mv (.t 3)),
 .l (some 14) false none (.iaddr 4 (.t 12) (.t 13)),
 .l (some 15) false none (.load 4 true (.t 14)),
 .h (some 4) none (.alloc [.s ⟨#[]⟩, .s ⟨#[]⟩, .s ⟨#[]⟩, .ff]),
 .h none none (.store 4 (.t 4) (.t 15))])
 (.seq
 (.seq
 (.reg [.l (some 16) false none (.faddr 0 (.t 4)),
 .l (some 17) false none (.load 1 false (.t 16)),
 .h (some 18) none (.call (.c (.fn (.func 48) [] [])) [.t 17]),
 .l (some 19) false none (.un .not (.t 18))])
 (.cond (.t 19)
 (.seq
 (.reg [.l (some 2) false none (.mv (.c (.i .i64 7)))])
 .ret)
 .skip))
 (.seq
 (.seq
 (.dreg (.light 0 (.l (some 20) false none (.mv (.t 3))) <|
 (.light 1 (.l (some 21) false none (.bin .gtr (.t 20) (.c (.i .i64 0)))) <|
 (.light 2 (.l (some 22) true none (.mv (.t 21))) <|
 (.light 3 (.l (some 23) false (some (22, true)) (.faddr 0 (.t 4))) <|
 (.light 4 (.l (some 24) false (some (22, true)) (.load 1 false (.t 23))) <|
 (.light 5 (.l (some 25) false (some (22, true)) (.faddr 0 (.t 1))) <|
 (.light 6 (.l (some 26) false (some (22, true)) (.load 1 false (.t 25))) <|
 (.light 7 (.l (some 27) false (some (22, true)) (.mv (.t 3))) <|
 (.light 8 (.l (some 28) false (some (22, true)) (.bin .sub (.t 27) (.c (.i .i64 1)))) <|
 (.light 9 (.l (some 29) false (some (22, true)) (.iaddr 4 (.t 26) (.t 28))) <|
 (.light 10 (.l (some 30) false (some (22, true)) (.faddr 0 (.t 29))) <|
 (.light 11 (.l (some 31) false (some (22, true)) (.load 1 false (.t 30))) <|
 (.light 12 (.l (some 32) false (some (22, true)) (.bin .eql (.t 24) (.t 31))) <|
 (.light 13 (.l (some 33) false none (.pick (.t 22) (.t 32) (.c (.ff)))) <|
 .fin)))))))))))))))
 (.cond (.t 33)
 (.seq
 (.reg [.l (some 2) false none (.mv (.c (.i .i64 8)))])
 .ret)
 .skip))
 (.seq
 (.seq
 (.dreg (.light 0 (.l (some 34) false none (.mv (.t 3))) <|
 (.light 1 (.l (some 35) false none (.bin .gtr (.t 34) (.c (.i .i64 0)))) <|
 (.light 2 (.l (some 36) true none (.mv (.t 35))) <|
 (.light 3 (.l (some 37) false (some (36, true)) (.faddr 0 (.t 4))) <|
 (.light 4 (.l (some 38) false (some (36, true)) (.load 1 false (.t 37))) <|
 (.light 5 (.l (some 39) false (some (36, true)) (.faddr 0 (.t 1))) <|
 (.light 6 (.l (some 40) false (some (36, true)) (.load 1 false (.t 39))) <|
 (.light 7 (.l (some 41) false (some (36, true)) (.mv (.t 3))) <|
 (.light 8 (.l (some 42) false (some (36, true)) (.bin .sub (.t 41) (.c (.i .i64 1)))) <|
 (.light 9 (.l (some 43) false (some (36, true)) (.iaddr 4 (.t 40) (.t 42))) <|
 (.light 10 (.l (some 44) false (some (36, true)) (.faddr 0 (.t 43))) <|
 (.light 11 (.l (some 45) false (some (36, true)) (.load 1 false (.t 44))) <|
 (.light 12 (.l (some 46) false (some (36, true)) (.bin .lss (.t 38) (.t 45))) <|
 (.light 13 (.l (some 47) false none (.pick (.t 36) (.t 46) (.c (.ff)))) <|
 .fin)))))))))))))))
 (.cond (.t 47)
 (.seq
 (.reg [.l (some 2) false none (.mv (.c (.i .i64 2)))])
 .ret)
 .skip))
 (.seq
 (.seq
 (.reg [.l (some 48) false none (.faddr 1 (.t 4)),
 .l (some 49) false none (.load 1 false (.t 48)),
 .l (some 50) false none (.len true (.t 49)),
 .l (some 51) false none (.bin .gtr (.t 50) (.c (.i .i64 65536))),
 .l (some 52) true none (.mv (.t 51)),
 .l (some 53) false (some (52, false)) (.faddr 2 (.t 4)),
 .l (some 54) false (some (52, false)) (.load 1 false (.t 53)),
 .l (some 55) false (some (52, false)) (.len true (.t 54)),
 .l (some 56) false (some (52, false)) (.bin .gtr (.t 55) (.c (.i .i64 65536))),
 .l (some 57) false none (.pick (.t 52) (.c (.tt)) (.t 56))])
 (.cond (.t 57)
 (.seq
 (.reg [.l (some 2) false none (.mv (.c (.i .i64 6)))])
 .ret)
 .skip))
 (.seq
 (.reg [.l (some 58) false none (.faddr 3 (.t 4)),
 .l (some 59) false none (.load 1 false (.t 58)),
 .l (some 60) false none (.un .not (.t 59)),
 .l (some 61) true none (.mv (.t 60)),
 .l (some 62) false (some (61, true)) (.faddr 2 (.t 4)),
 .l (some 63) false (some (61, true)) (.load 1 false (.t 62)),
 .l (some 64) false (some (61, true)) (.bin .neq (.t 63) (.c (.s ⟨#[]⟩))),
 .l (some 65) false none (.pick (.t 61) (.t 64) (.c (.ff)))])
 (.cond (.t 65)
 (.seq
 (.reg [.l (some 2) false none (.mv (.c (.i .i64 3)))])
 .ret)
 .skip)))))))))
 (.reg [.l (some 66) false none (.bin .add (.t 8) (.c (.i .i64 1))),
 .l (some 8) false none (.mv (.t 66))])))))))
 (.seq
 (.reg [.l (some 2) false none (.mv (.c (.i .i64 0)))])
 .ret)))
def r19 : List MR := [.t 2]
theorem is19 : FnIs Tryz.prog 19 67 m19 r19 := ⟨by kernel_rfl, Tryz.f19, _, Tryz.func19, rfl, by decide, rfl, by kernel_rfl, by kernel_rfl⟩

def m48 : MC :=
 (.seq
 (.reg [.l (some 2) false none (.mv (.c (.ff)))])
 (.seq
 (.reg [.l (some 3) false none (.mv (.t 0)),
 .l (some 4) false none (.len true (.t 3)),
 .l (some 5) false none (.bin .geq (.t 4) (.c (.i .i64 1))),
 .l (some 6) true none (.mv (.t 5)),
 .l (some 7) false (some (6, true)) (.mv (.t 0)),
 .l (some 8) false (some (6, true)) (.len true (.t 7)),
 .l (some 9) false (some (6, true)) (.bin .leq (.t 8) (.c (.i .i64 100))),
 .l (some 10) false none (.pick (.t 6) (.t 9) (.c (.ff))),
 .l (some 2) false none (.mv (.t 10))])
 .ret))
def r48 : List MR := [.t 2]
theorem is48 : FnIs Tryz.prog 48 11 m48 r48 := ⟨by kernel_rfl, Tryz.f48, _, Tryz.func48, rfl, by decide, rfl, by kernel_rfl, by kernel_rfl⟩

def m51 : MC :=
 (.seq
 (.reg [.h (some 2) none (.box (.t 0)),
 .h (some 4) none (.alloc [.nils, .nils]),
 .l (some 5) false none (.mv (.c (.i .i64 0)))])
 (.seq
 (.seq
 (.reg [.l (some 11) false none (.load 2 true (.t 2)),
 .h (some 12) none (.call (.c (.fn (.func 85) [] [])) [.t 11]),
 .l (some 6) false none (.mv (.t 12))])
 (.seq
 (.reg [.l (some 13) false none (.mv (.t 6)),
 .l (some 14) false none (.bin .neq (.t 13) (.c (.i .i64 0)))])
 (.cond (.t 14)
 (.seq
 (.reg [.l (some 15) false none (.load 2 true (.t 2)),
 .h (some 16) none (.call (.c (.fn (.func 86) [] [])) [.t 15]),
 .l (some 17) false none (.mv (.t 6)),
 .h none none (.store 2 (.t 4) (.t 16)),
 .l (some 5) false none (.mv (.t 17))])
 .ret)
 .skip)))
 (.seq
 (.seq
 (.reg [.l (some 18) false none (.mv (.t 1)),
 .h (some 19) none (.call (.c (.fn (.func 87) [] [])) [.t 18]),
 .l (some 20) false none (.un .not (.t 19))])
 (.cond (.t 20)
 (.seq
 (.reg [.l (some 21) false none (.load 2 true (.t 2)),
 .h (some 22) none (.call (.c (.fn (.func 86) [] [])) [.t 21]),
 .h none none (.store 2 (.t 4) (.t 22)),
 .l (some 5) false none (.mv (.c (.i .i64 7)))])
 .ret)
 .skip))
 (.seq
 (.reg [.l (some 24) false none (.load 2 true (.t 2)),
 .h (some 25) none (.call (.c (.fn (.func 88) [] [])) [.t 24]),
 .l (some 23) false none (.mv (.t 25)),
 .l (some 26) false none (.ext (.t 23) 0),
 .l (some 27) false none (.ext (.t 23) 1),
 .h (some 7) none (.alloc [.nils, .nils]),
 .h none none (.store 2 (.t 7) (.t 26)),
 .l (some 8) false none (.mv (.t 27))])
 (.seq
 (.reg [.l (some 29) false none (.load 2 true (.t 7)),
 .l (some 30) false none (.mv (.t 1)),
 .h (some 31) none (.call (.c (.fn (.func 89) [] [])) [.t 29, .t 30]),
 .l (some 28) false none (.mv (.t 31)),
 .l (some 32) false none (.ext (.t 28) 0),
 .l (some 33) false none (.ext (.t 28) 1),
 .l (some 9) false none (.mv (.t 32)),
 .l (some 10) false none (.mv (.t 33))])
 (.seq
 (.block 0
 (.seq
 (.reg [.l (some 35) false none (.mv (.t 8)),
 .l (some 36) false none (.bin .eql (.t 35) (.c (.i .i64 4))),
 .l (some 34) false none (.mv (.t 36))])
 (.cond (.t 34)
 (.seq
 (.reg [.l (some 37) false none (.load 2 true (.t 7)),
 .h none none (.store 2 (.t 4) (.t 37)),
 .l (some 5) false none (.mv (.c (.i .i64 17)))])
 .ret)
 (.seq
 (.reg [.l (some 39) false none (.mv (.t 8)),
 .l (some 40) false none (.bin .eql (.t 39) (.c (.i .i64 1))),
 .l (some 41) true none (.mv (.t 40)),
 .l (some 42) false (some (41, false)) (.mv (.t 8)),
 .l (some 43) false (some (41, false)) (.bin .eql (.t 42) (.c (.i .i64 3))),
 .l (some 44) false none (.pick (.t 41) (.c (.tt)) (.t 43)),
 .l (some 38) false none (.mv (.t 44))])
 (.cond (.t 38)
 (.seq
 (.reg [.l (some 45) false none (.load 2 true (.t 7)),
 .h none none (.store 2 (.t 4) (.t 45)),
 .l (some 5) false none (.mv (.c (.i .i64 0)))])
 .ret)
 (.seq
 (.reg [.l (some 47) false none (.mv (.t 10)),
 .l (some 48) false none (.un .not (.t 47)),
 .l (some 46) false none (.mv (.t 48))])
 (.cond (.t 46)
 (.seq
 (.reg [.l (some 49) false none (.load 2 true (.t 7)),
 .h none none (.store 2 (.t 4) (.t 49)),
 .l (some 5) false none (.mv (.c (.i .i64 9)))])
 .ret)
 .skip)))))))
 (.seq
 (.reg [.l (some 50) false none (.faddr 0 (.t 7)),
 .l (some 51) false none (.load 1 false (.t 50)),
 .l (some 52) false none (.mv (.t 9)),
 .l (some 53) false none (.mv (.t 9)),
 .l (some 54) false none (.bin .add (.t 53) (.c (.i .i64 1))),
 .h (some 55) none (.call (.c (.fn (.func 90) [] [])) [.t 51, .t 52, .t 54]),
 .l (some 56) false none (.faddr 0 (.t 7)),
 .h none none (.store 1 (.t 56) (.t 55))])
 (.seq
 (.reg [.l (some 57) false none (.load 2 true (.t 7)),
 .h none none (.store 2 (.t 4) (.t 57)),
 .l (some 5) false none (.mv (.c (.i .i64 0)))])
 .ret))))))))
def r51 : List MR := [.cell 4 2 true, .t 5]
theorem is51 : FnIs Tryz.prog 51 58 m51 r51 := ⟨by kernel_rfl, Tryz.f51, _, Tryz.func51, rfl, by decide, rfl, by kernel_rfl, by kernel_rfl⟩

def m54 : MC :=
 (.seq
 (.reg [.h (some 2) none (.box (.t 0)),
 .h (some 4) none (.alloc [.nils, .nils]),
 .l (some 5) false none (.mv (.c (.nils))),
 .l (some 6) false none (.mv (.c (.i .i64 0)))])
 (.seq
 (.seq
 (.reg [.l (some 13) false none (.load 2 true (.t 2)),
 .h (some 14) none (.call (.c (.fn (.func 85) [] [])) [.t 13]),
 .l (some 7) false none (.mv (.t 14))])
 (.seq
 (.reg [.l (some 15) false none (.mv (.t 7)),
 .l (some 16) false none (.bin .neq (.t 15) (.c (.i .i64 0)))])
 (.cond (.t 16)
 (.seq
 (.reg [.l (some 17) false none (.load 2 true (.t 2)),
 .h (some 18) none (.call (.c (.fn (.func 86) [] [])) [.t 17]),
 .l (some 19) false none (.mv (.t 7)),
 .h none none (.store 2 (.t 4) (.t 18)),
 .l (some 5) false none (.mv (.c (.nils))),
 .l (some 6) false none (.mv (.t 19))])
 .ret)
 .skip)))
 (.seq
 (.reg [.l (some 21) false none (.load 2 true (.t 2)),
 .h (some 22) none (.call (.c (.fn (.func 88) [] [])) [.t 21]),
 .l (some 20) false none (.mv (.t 22)),
 .l (some 23) false none (.ext (.t 20) 0),
 .l (some 24) false none (.ext (.t 20) 1),
 .h (some 8) none (.alloc [.nils, .nils]),
 .h none none (.store 2 (.t 8) (.t 23)),
 .l (some 9) false none (.mv (.t 24))])
 (.seq
 (.seq
 (.reg [.l (some 25) false none (.mv (.t 9))])
 (.block 0
 (.seq
 (.reg [.l (some 27) false none (.bin .eql (.t 25) (.c (.i .i64 4))),
 .l (some 26) false none (.mv (.t 27))])
 (.cond (.t 26)
 (.seq
 (.reg [.l (some 28) false none (.load 2 true (.t 8)),
 .h none none (.store 2 (.t 4) (.t 28)),
 .l (some 5) false none (.mv (.c (.nils))),
 .l (some 6) false none (.mv (.c (.i .i64 17)))])
 .ret)
 (.seq
 (.reg [.l (some 30) false none (.bin .eql (.t 25) (.c (.i .i64 1))),
 .l (some 29) false none (.mv (.t 30))])
 (.cond (.t 29)
 (.seq
 (.reg [.l (some 31) false none (.load 2 true (.t 8)),
 .h none none (.store 2 (.t 4) (.t 31)),
 .l (some 5) false none (.mv (.c (.nils))),
 .l (some 6) false none (.mv (.c (.i .i64 0)))])
 .ret)
 .skip))))))
 (.seq
 (.reg [.l (some 10) false none (.mv (.c (.nils)))])
 (.seq
 (.seq
 (.reg [.l (some 32) false none (.faddr 0 (.t 8)),
 .l (some 33) false none (.load 1 false (.t 32)),
 .l (some 34) false none (.len false (.t 33)),
 .l (some 35) false none (.mv (.c (.i .i64 0)))])
 (.block 1
 (.loop
 (.seq
 (.reg [.l (some 36) false none (.bin .lss (.t 35) (.t 34))])
 (.seq
 (.cond (.t 36)
 .skip
 (.exit 1))
 (.seq
 (.block 2
 (.seq
 (.reg [.l (some 37) false none (.iaddr 4 (.t 33) (.t 35)),
 .l (some 38) false none (.load 4 true (.t 37)),
 .h (some 12) none (.alloc [.s ⟨#[]⟩, .s ⟨#[]⟩, .s ⟨#[]⟩, .ff]),
 .h none none (.store 4 (.t 12) (.t 38))])
 (.seq
 (.reg [.l (some 39) false none (.faddr 0 (.t 12)),
 .l (some 40) false none (.load 1 false (.t 39)),
 .l (some 41) false none (.mv (.t 1)),
 .h (some 42) none (.call (.c (.fn (.func 91) [] [])) [.t 40, .t 41]),
 .l (some 43) true none (.mv (.t 42)),
 .l (some 44) false (some (43, true)) (.mv (.t 9)),
 .l (some 45) false (some (43, true)) (.bin .neq (.t 44) (.c (.i .i64 3))),
 .l (some 46) true (some (43, true)) (.mv (.t 45)),
 .l (some 47) false (some (46, false)) (.faddr 3 (.t 12)),
 .l (some 48) false (some (46, false)) (.load 1 false (.t 47)),
 .l (some 49) false (some (43, true)) (.pick (.t 46) (.c (.tt)) (.t 48)),
 .l (some 50) false none (.pick (.t 43) (.t 49) (.c (.ff)))])
 (.cond (.t 50)
 (.reg [.l (some 51) false none (.mv (.t 10)),
 .l (some 52) false none (.faddr 0 (.t 12)),
 .l (some 53) false none (.load 1 false (.t 52)),
 .h (some 54) none (.bslice 1 1 [.s ⟨#[]⟩] [(0, 1, .t 53)]),
 .h (some 55) none (.app 1 16 (.t 51) (.t 54)),
 .l (some 10) false none (.mv (.t 55))])
 .skip))))
 (.reg [.l (some 56) false none (.bin .add (.t 35) (.c (.i .i64 1))),
 .l (some 35) false none (.mv (.t 56))])))))))
 (.seq
 (.reg [.l (some 57) false none (.load 2 true (.t 8)),
 .l (some 58) false none (.mv (.t 10)),
 .h none none (.store 2 (.t 4) (.t 57)),
 .l (some 5) false none (.mv (.t 58)),
 .l (some 6) false none (.mv (.c (.i .i64 0)))])
 .ret)))))))
def r54 : List MR := [.cell 4 2 true, .t 5, .t 6]
theorem is54 : FnIs Tryz.prog 54 59 m54 r54 := ⟨by kernel_rfl, Tryz.f54, _, Tryz.func54, rfl, by decide, rfl, by kernel_rfl, by kernel_rfl⟩

def m70 : MC :=
 (.seq
 (.reg [.h (some 3) none (.box (.t 0)),
 .h (some 6) none (.alloc [.nils, .nils]),
 .l (some 7) false none (.mv (.c (.i .i64 0)))])
 (.seq
 (.seq
 (.reg [.l (some 14) false none (.load 2 true (.t 3)),
 .h (some 15) none (.call (.c (.fn (.func 85) [] [])) [.t 14]),
 .l (some 8) false none (.mv (.t 15))])
 (.seq
 (.reg [.l (some 16) false none (.mv (.t 8)),
 .l (some 17) false none (.bin .neq (.t 16) (.c (.i .i64 0)))])
 (.cond (.t 17)
 (.seq
 (.reg [.l (some 18) false none (.load 2 true (.t 3)),
 .h (some 19) none (.call (.c (.fn (.func 86) [] [])) [.t 18]),
 .l (some 20) false none (.mv (.t 8)),
 .h none none (.store 2 (.t 6) (.t 19)),
 .l (some 7) false none (.mv (.t 20))])
 .ret)
 .skip)))
 (.seq
 (.seq
 (.reg [.l (some 21) false none (.mv (.t 1)),
 .h (some 22) none (.call (.c (.fn (.func 87) [] [])) [.t 21]),
 .l (some 23) false none (.un .not (.t 22))])
 (.cond (.t 23)
 (.seq
 (.reg [.l (some 24) false none (.load 2 true (.t 3)),
 .h (some 25) none (.call (.c (.fn (.func 86) [] [])) [.t 24]),
 .h none none (.store 2 (.t 6) (.t 25)),
 .l (some 7) false none (.mv (.c (.i .i64 7)))])
 .ret)
 .skip))
 (.seq
 (.seq
 (.reg [.l (some 26) false none (.mv (.t 2)),
 .l (some 27) false none (.len true (.t 26)),
 .l (some 28) false none (.bin .gtr (.t 27) (.c (.i .i64 65536)))])
 (.cond (.t 28)
 (.seq
 (.reg [.l (some 29) false none (.load 2 true (.t 3)),
 .h (some 30) none (.call (.c (.fn (.func 86) [] [])) [.t 29]),
 .h none none (.store 2 (.t 6) (.t 30)),
 .l (some 7) false none (.mv (.c (.i .i64 6)))])
 .ret)
 .skip))
 (.seq
 (.reg [.l (some 32) false none (.load 2 true (.t 3)),
 .h (some 33) none (.call (.c (.fn (.func 88) [] [])) [.t 32]),
 .l (some 31) false none (.mv (.t 33)),
 .l (some 34) false none (.ext (.t 31) 0),
 .l (some 35) false none (.ext (.t 31) 1),
 .h (some 9) none (.alloc [.nils, .nils]),
 .h none none (.store 2 (.t 9) (.t 34)),
 .l (some 10) false none (.mv (.t 35))])
 (.seq
 (.seq
 (.reg [.l (some 36) false none (.mv (.t 10))])
 (.block 0
 (.seq
 (.block 4
 (.seq
 (.block 3
 (.seq
 (.block 2
 (.seq
 (.block 1
 (.seq
 (.seq
 (.seq
 (.reg [.l (some 38) false none (.bin .eql (.t 36) (.c (.i .i64 4))),
 .l (some 37) false none (.mv (.t 38))])
 (.cond (.t 37)
 (.exit 1)
 .skip))
 (.seq
 (.seq
 (.seq
 (.reg [.l (some 40) false none (.bin .eql (.t 36) (.c (.i .i64 1))),
 .l (some 39) false none (.mv (.t 40))])
 (.cond (.t 39)
 .skip
 (.reg [.l (some 41) false none (.bin .eql (.t 36) (.c (.i .i64 3))),
 .l (some 39) false none (.mv (.t 41))])))
 (.cond (.t 39)
 (.exit 2)
 .skip))
 (.seq
 (.reg [.l (some 43) false none (.bin .eql (.t 36) (.c (.i .i64 2))),
 .l (some 42) false none (.mv (.t 43))])
 (.cond (.t 42)
 (.exit 3)
 .skip))))
 (.exit 4)))
 (.seq
 (.seq
 (.reg [.l (some 44) false none (.load 2 true (.t 9)),
 .h none none (.store 2 (.t 6) (.t 44)),
 .l (some 7) false none (.mv (.c (.i .i64 17)))])
 .ret)
 (.exit 0))))
 (.seq
 (.seq
 (.reg [.l (some 45) false none (.load 2 true (.t 9)),
 .h none none (.store 2 (.t 6) (.t 45)),
 .l (some 7) false none (.mv (.c (.i .i64 0)))])
 .ret)
 (.exit 0))))
 (.reg [.l (some 46) false none (.mv (.t 2)),
 .h (some 47) none (.call (.c (.fn (.func 106) [] [])) [.t 46]),
 .l (some 2) false none (.mv (.t 47))])))
 (.seq
 (.seq
 (.reg [.l (some 48) false none (.mv (.t 1)),
 .l (some 49) false none (.mv (.t 2)),
 .l (some 50) false none (.build [.s ⟨#[]⟩, .s ⟨#[]⟩, .s ⟨#[]⟩, .ff] [(0, 1, .t 48), (1, 1, .t 49)]),
 .h (some 11) none (.alloc [.s ⟨#[]⟩, .s ⟨#[]⟩, .s ⟨#[]⟩, .ff]),
 .h none none (.store 4 (.t 11) (.t 50))])
 (.seq
 (.reg [.l (some 52) false none (.load 2 true (.t 9)),
 .l (some 53) false none (.mv (.t 1)),
 .h (some 54) none (.call (.c (.fn (.func 89) [] [])) [.t 52, .t 53]),
 .l (some 51) false none (.mv (.t 54)),
 .l (some 55) false none (.ext (.t 51) 0),
 .l (some 56) false none (.ext (.t 51) 1),
 .l (some 12) false none (.mv (.t 55)),
 .l (some 13) false none (.mv (.t 56))])
 (.seq
 (.reg [.l (some 57) false none (.mv (.t 13))])
 (.cond (.t 57)
 (.seq
 (.reg [.l (some 58) false none (.faddr 0 (.t 9)),
 .l (some 59) false none (.load 1 false (.t 58)),
 .l (some 60) false none (.mv (.t 12)),
 .l (some 61) false none (.iaddr 4 (.t 59) (.t 60)),
 .l (some 62) false none (.faddr 1 (.t 61)),
 .l (some 63) false none (.load 1 false (.t 62)),
 .l (some 64) false none (.faddr 2 (.t 11)),
 .h none none (.store 1 (.t 64) (.t 63)),
 .l (some 65) false none (.faddr 3 (.t 11)),
 .h none none (.store 1 (.t 65) (.c (.tt)))])
 (.reg [.l (some 66) false none (.faddr 0 (.t 9)),
 .l (some 67) false none (.load 1 false (.t 66)),
 .l (some 68) false none (.mv (.t 12)),
 .l (some 69) false none (.load 4 true (.t 11)),
 .l (some 70) false none (.iaddr 4 (.t 67) (.t 68)),
 .h none none (.store 4 (.t 70) (.t 69))]))
 (.reg [.l (some 71) false none (.faddr 0 (.t 9)),
 .l (some 72) false none (.load 1 false (.t 71)),
 .l (some 73) false none (.mv (.t 12)),
 .l (some 74) false none (.load 4 true (.t 11)),
 .h (some 75) none (.bslice 4 1 [.s ⟨#[]⟩, .s ⟨#[]⟩, .s ⟨#[]⟩, .ff] [(0, 4, .t 74)]),
 .h (some 76) none (.call (.c (.fn (.func 107) [] [])) [.t 72, .t 73, .t 75]),
 .l (some 77) false none (.faddr 0 (.t 9)),
 .h none none (.store 1 (.t 77) (.t 76))])))))
 (.exit 0)))))
 (.seq
 (.reg [.l (some 78) false none (.load 2 true (.t 9)),
 .h none none (.store 2 (.t 6) (.t 78)),
 .l (some 7) false none (.mv (.c (.i .i64 0)))])
 .ret)))))))
def r70 : List MR := [.cell 6 2 true, .t 7]
theorem is70 : FnIs Tryz.prog 70 79 m70 r70 := ⟨by kernel_rfl, Tryz.f70, _, Tryz.func70, rfl, by decide, rfl, by kernel_rfl, by kernel_rfl⟩

def m80 : MC :=
 (.seq
 (.reg [.h (some 2) none (.box (.t 0)),
 .h (some 4) none (.alloc [.nils, .nils]),
 .l (some 5) false none (.mv (.c (.s ⟨#[]⟩))),
 .l (some 6) false none (.mv (.c (.i .i64 0)))])
 (.seq
 (.seq
 (.reg [.l (some 12) false none (.load 2 true (.t 2)),
 .h (some 13) none (.call (.c (.fn (.func 85) [] [])) [.t 12]),
 .l (some 7) false none (.mv (.t 13))])
 (.seq
 (.reg [.l (some 14) false none (.mv (.t 7)),
 .l (some 15) false none (.bin .neq (.t 14) (.c (.i .i64 0)))])
 (.cond (.t 15)
 (.seq
 (.reg [.l (some 16) false none (.load 2 true (.t 2)),
 .h (some 17) none (.call (.c (.fn (.func 86) [] [])) [.t 16]),
 .l (some 18) false none (.mv (.t 7)),
 .h none none (.store 2 (.t 4) (.t 17)),
 .l (some 5) false none (.mv (.c (.s ⟨#[]⟩))),
 .l (some 6) false none (.mv (.t 18))])
 .ret)
 .skip)))
 (.seq
 (.seq
 (.reg [.l (some 19) false none (.mv (.t 1)),
 .h (some 20) none (.call (.c (.fn (.func 87) [] [])) [.t 19]),
 .l (some 21) false none (.un .not (.t 20))])
 (.cond (.t 21)
 (.seq
 (.reg [.l (some 22) false none (.load 2 true (.t 2)),
 .h (some 23) none (.call (.c (.fn (.func 86) [] [])) [.t 22]),
 .h none none (.store 2 (.t 4) (.t 23)),
 .l (some 5) false none (.mv (.c (.s ⟨#[]⟩))),
 .l (some 6) false none (.mv (.c (.i .i64 7)))])
 .ret)
 .skip))
 (.seq
 (.reg [.l (some 25) false none (.load 2 true (.t 2)),
 .h (some 26) none (.call (.c (.fn (.func 88) [] [])) [.t 25]),
 .l (some 24) false none (.mv (.t 26)),
 .l (some 27) false none (.ext (.t 24) 0),
 .l (some 28) false none (.ext (.t 24) 1),
 .h (some 8) none (.alloc [.nils, .nils]),
 .h none none (.store 2 (.t 8) (.t 27)),
 .l (some 9) false none (.mv (.t 28))])
 (.seq
 (.reg [.l (some 30) false none (.load 2 true (.t 8)),
 .l (some 31) false none (.mv (.t 1)),
 .h (some 32) none (.call (.c (.fn (.func 89) [] [])) [.t 30, .t 31]),
 .l (some 29) false none (.mv (.t 32)),
 .l (some 33) false none (.ext (.t 29) 0),
 .l (some 34) false none (.ext (.t 29) 1),
 .l (some 10) false none (.mv (.t 33)),
 .l (some 11) false none (.mv (.t 34))])
 (.seq
 (.block 0
 (.seq
 (.reg [.l (some 36) false none (.mv (.t 9)),
 .l (some 37) false none (.bin .eql (.t 36) (.c (.i .i64 4))),
 .l (some 35) false none (.mv (.t 37))])
 (.cond (.t 35)
 (.seq
 (.reg [.l (some 38) false none (.load 2 true (.t 8)),
 .h none none (.store 2 (.t 4) (.t 38)),
 .l (some 5) false none (.mv (.c (.s ⟨#[]⟩))),
 .l (some 6) false none (.mv (.c (.i .i64 17)))])
 .ret)
 (.seq
 (.reg [.l (some 40) false none (.mv (.t 9)),
 .l (some 41) false none (.bin .eql (.t 40) (.c (.i .i64 1))),
 .l (some 42) true none (.mv (.t 41)),
 .l (some 43) false (some (42, false)) (.mv (.t 11)),
 .l (some 44) false (some (42, false)) (.un .not (.t 43)),
 .l (some 45) false none (.pick (.t 42) (.c (.tt)) (.t 44)),
 .l (some 46) true none (.mv (.t 45)),
 .l (some 47) false (some (46, false)) (.mv (.t 9)),
 .l (some 48) false (some (46, false)) (.bin .eql (.t 47) (.c (.i .i64 3))),
 .l (some 49) true (some (46, false)) (.mv (.t 48)),
 .l (some 50) false (some (49, true)) (.faddr 0 (.t 8)),
 .l (some 51) false (some (49, true)) (.load 1 false (.t 50)),
 .l (some 52) false (some (49, true)) (.mv (.t 10)),
 .l (some 53) false (some (49, true)) (.iaddr 4 (.t 51) (.t 52)),
 .l (some 54) false (some (49, true)) (.faddr 3 (.t 53)),
 .l (some 55) false (some (49, true)) (.load 1 false (.t 54)),
 .l (some 56) false (some (49, true)) (.un .not (.t 55)),
 .l (some 57) false (some (46, false)) (.pick (.t 49) (.t 56) (.c (.ff))),
 .l (some 58) false none (.pick (.t 46) (.c (.tt)) (.t 57)),
 .l (some 39) false none (.mv (.t 58))])
 (.cond (.t 39)
 (.seq
 (.reg [.l (some 59) false none (.load 2 true (.t 8)),
 .h none none (.store 2 (.t 4) (.t 59)),
 .l (some 5) false none (.mv (.c (.s ⟨#[]⟩))),
 .l (some 6) false none (.mv (.c (.i .i64 9)))])
 .ret)
 (.seq
 (.reg [.l (some 61) false none (.mv (.t 9)),
 .l (some 62) false none (.bin .eql (.t 61) (.c (.i .i64 3))),
 .l (some 60) false none (.mv (.t 62))])
 (.cond (.t 60)
 (.seq
 (.dreg (.light 0 (.l (some 63) false none (.load 2 true (.t 8))) <|
 (.light 1 (.l (some 64) false none (.faddr 0 (.t 8))) <|
 (.light 2 (.l (some 65) false none (.load 1 false (.t 64))) <|
 (.light 3 (.l (some 66) false none (.mv (.t 10))) <|
 (.light 4 (.l (some 67) false none (.iaddr 4 (.t 65) (.t 66))) <|
 (.light 5 (.l (some 68) false none (.faddr 2 (.t 67))) <|
 (.light 6 (.l (some 69) false none (.load 1 false (.t 68))) <|
 (.heavy 7 [1, 2, 3, 4, 5, 6] (.h none none (.store 2 (.t 4) (.t 63)))
 (.light 8 (.l (some 5) false none (.mv (.t 69))) <|
 (.light 9 (.l (some 6) false none (.mv (.c (.i .i64 0)))) <|
 .fin))
 .nil)))))))))
 .ret)
 (.seq
 (.reg [.l (some 71) false none (.mv (.t 9)),
 .l (some 72) false none (.bin .eql (.t 71) (.c (.i .i64 2))),
 .l (some 70) false none (.mv (.t 72))])
 (.cond (.t 70)
 (.seq
 (.dreg (.light 0 (.l (some 73) false none (.load 2 true (.t 8))) <|
 (.light 1 (.l (some 74) false none (.faddr 0 (.t 8))) <|
 (.light 2 (.l (some 75) false none (.load 1 false (.t 74))) <|
 (.light 3 (.l (some 76) false none (.mv (.t 10))) <|
 (.light 4 (.l (some 77) false none (.iaddr 4 (.t 75) (.t 76))) <|
 (.light 5 (.l (some 78) false none (.faddr 1 (.t 77))) <|
 (.light 6 (.l (some 79) false none (.load 1 false (.t 78))) <|
 (.heavy 7 [0] (.h (some 80) none (.call (.c (.fn (.func 106) [] [])) [.t 79]))
 (.heavy 8 [] (.h none none (.store 2 (.t 4) (.t 73)))
 (.light 9 (.l (some 5) false none (.mv (.t 80))) <|
 (.light 10 (.l (some 6) false none (.mv (.c (.i .i64 0)))) <|
 .fin))
 .nil)
 .nil)))))))))
 .ret)
 .skip)))))))))
 (.seq
 (.dreg (.light 0 (.l (some 81) false none (.load 2 true (.t 8))) <|
 (.light 1 (.l (some 82) false none (.faddr 0 (.t 8))) <|
 (.light 2 (.l (some 83) false none (.load 1 false (.t 82))) <|
 (.light 3 (.l (some 84) false none (.mv (.t 10))) <|
 (.light 4 (.l (some 85) false none (.iaddr 4 (.t 83) (.t 84))) <|
 (.light 5 (.l (some 86) false none (.faddr 1 (.t 85))) <|
 (.light 6 (.l (some 87) false none (.load 1 false (.t 86))) <|
 (.heavy 7 [1, 2, 3, 4, 5, 6] (.h none none (.store 2 (.t 4) (.t 81)))
 (.light 8 (.l (some 5) false none (.mv (.t 87))) <|
 (.light 9 (.l (some 6) false none (.mv (.c (.i .i64 0)))) <|
 .fin))
 .nil)))))))))
 .ret)))))))
def r80 : List MR := [.cell 4 2 true, .t 5, .t 6]
theorem is80 : FnIs Tryz.prog 80 88 m80 r80 := ⟨by kernel_rfl, Tryz.f80, _, Tryz.func80, rfl, by decide, rfl, by kernel_rfl, by kernel_rfl⟩

def m85 : MC :=
 (.seq
 (.reg [.h (some 1) none (.box (.t 0)),
 .l (some 2) false none (.mv (.c (.i .i64 0)))])
 (.seq
 (.seq
 (.reg [.l (some 5) false none (.faddr 0 (.t 1)),
 .l (some 6) false none (.load 1 false (.t 5)),
 .l (some 7) false none (.len false (.t 6)),
 .l (some 8) false none (.mv (.c (.i .i64 0)))])
 (.block 0
 (.loop
 (.seq
 (.reg [.l (some 9) false none (.bin .lss (.t 8) (.t 7))])
 (.seq
 (.cond (.t 9)
 .skip
 (.exit 0))
 (.seq
 (.block 1
 (.seq
 (.reg [.l (some 10) false none (.mv (.t 8)),
 .l (some 11) false none (.iaddr 4 (.t 6) (.t 8)),
 .l (some 12) false none (.load 4 true (.t 11)),
 .h (some 4) none (.alloc [.s ⟨#[]⟩, .s ⟨#[]⟩, .s ⟨#[]⟩, .ff]),
 .l (some 3) false none (.mv (.t 10)),
 .h none none (.store 4 (.t 4) (.t 12))])
 (.block 2
 (.seq
 (.reg [.l (some 14) false none (.faddr 0 (.t 4)),
 .l (some 15) false none (.load 1 false (.t 14)),
 .h (some 16) none (.call (.c (.fn (.func 87) [] [])) [.t 15]),
 .l (some 17) false none (.un .not (.t 16)),
 .l (some 13) false none (.mv (.t 17))])
 (.cond (.t 13)
 (.seq
 (.reg [.l (some 2) false none (.mv (.c (.i .i64 7)))])
 .ret)
 (.seq
 (.dreg (.light 0 (.l (some 19) false none (.mv (.t 3))) <|
 (.light 1 (.l (some 20) false none (.bin .gtr (.t 19) (.c (.i .i64 0)))) <|
 (.light 2 (.l (some 21) true none (.mv (.t 20))) <|
 (.light 3 (.l (some 22) false (some (21, true)) (.faddr 0 (.t 1))) <|
 (.light 4 (.l (some 23) false (some (21, true)) (.load 1 false (.t 22))) <|
 (.light 5 (.l (some 24) false (some (21, true)) (.mv (.t 3))) <|
 (.light 6 (.l (some 25) false (some (21, true)) (.bin .sub (.t 24) (.c (.i .i64 1)))) <|
 (.light 7 (.l (some 26) false (some (21, true)) (.iaddr 4 (.t 23) (.t 25))) <|
 (.light 8 (.l (some 27) false (some (21, true)) (.faddr 0 (.t 26))) <|
 (.light 9 (.l (some 28) false (some (21, true)) (.load 1 false (.t 27))) <|
 (.light 10 (.l (some 29) false (some (21, true)) (.faddr 0 (.t 4))) <|
 (.light 11 (.l (some 30) false (some (21, true)) (.load 1 false (.t 29))) <|
 (.light 12 (.l (some 31) false (some (21, true)) (.bin .eql (.t 28) (.t 30))) <|
 (.light 13 (.l (some 32) false none (.pick (.t 21) (.t 31) (.c (.ff)))) <|
 (.light 14 (.l (some 18) false none (.mv (.t 32))) <|
 .fin))))))))))))))))
 (.cond (.t 18)
 (.seq
 (.reg [.l (some 2) false none (.mv (.c (.i .i64 8)))])
 .ret)
 (.seq
 (.dreg (.light 0 (.l (some 34) false none (.mv (.t 3))) <|
 (.light 1 (.l (some 35) false none (.bin .gtr (.t 34) (.c (.i .i64 0)))) <|
 (.light 2 (.l (some 36) true none (.mv (.t 35))) <|
 (.light 3 (.l (some 37) false (some (36, true)) (.faddr 0 (.t 1))) <|
 (.light 4 (.l (some 38) false (some (36, true)) (.load 1 false (.t 37))) <|
 (.light 5 (.l (some 39) false (some (36, true)) (.mv (.t 3))) <|
 (.light 6 (.l (some 40) false (some (36, true)) (.bin .sub (.t 39) (.c (.i .i64 1)))) <|
 (.light 7 (.l (some 41) false (some (36, true)) (.iaddr 4 (.t 38) (.t 40))) <|
 (.light 8 (.l (some 42) false (some (36, true)) (.faddr 0 (.t 41))) <|
 (.light 9 (.l (some 43) false (some (36, true)) (.load 1 false (.t 42))) <|
 (.light 10 (.l (some 44) false (some (36, true)) (.faddr 0 (.t 4))) <|
 (.light 11 (.l (some 45) false (some (36, true)) (.load 1 false (.t 44))) <|
 (.light 12 (.l (some 46) false (some (36, true)) (.bin .gtr (.t 43) (.t 45))) <|
 (.light 13 (.l (some 47) false none (.pick (.t 36) (.t 46) (.c (.ff)))) <|
 (.light 14 (.l (some 33) false none (.mv (.t 47))) <|
 .fin))))))))))))))))
 (.cond (.t 33)
 (.seq
 (.reg [.l (some 2) false none (.mv (.c (.i .i64 2)))])
 .ret)
 (.seq
 (.reg [.l (some 49) false none (.faddr 1 (.t 4)),
 .l (some 50) false none (.load 1 false (.t 49)),
 .l (some 51) false none (.len true (.t 50)),
 .l (some 52) false none (.bin .gtr (.t 51) (.c (.i .i64 65536))),
 .l (some 53) true none (.mv (.t 52)),
 .l (some 54) false (some (53, false)) (.faddr 2 (.t 4)),
 .l (some 55) false (some (53, false)) (.load 1 false (.t 54)),
 .l (some 56) false (some (53, false)) (.len true (.t 55)),
 .l (some 57) false (some (53, false)) (.bin .gtr (.t 56) (.c (.i .i64 65536))),
 .l (some 58) false none (.pick (.t 53) (.c (.tt)) (.t 57)),
 .l (some 48) false none (.mv (.t 58))])
 (.cond (.t 48)
 (.seq
 (.reg [.l (some 2) false none (.mv (.c (.i .i64 6)))])
 .ret)
 (.seq
 (.reg [.l (some 60) false none (.faddr 3 (.t 4)),
 .l (some 61) false none (.load 1 false (.t 60)),
 .l (some 62) false none (.un .not (.t 61)),
 .l (some 63) true none (.mv (.t 62)),
 .l (some 64) false (some (63, true)) (.faddr 2 (.t 4)),
 .l (some 65) false (some (63, true)) (.load 1 false (.t 64)),
 .l (some 66) false (some (63, true)) (.bin .neq (.t 65) (.c (.s ⟨#[]⟩))),
 .l (some 67) false none (.pick (.t 63) (.t 66) (.c (.ff))),
 .l (some 59) false none (.mv (.t 67))])
 (.cond (.t 59)
 (.seq
 (.reg [.l (some 2) false none (.mv (.c (.i .i64 3)))])
 .ret)
 .skip)))))))))))))
 (.reg [.l (some 68) false none (.bin .add (.t 8) (.c (.i .i64 1))),
 .l (some 8) false none (.mv (.t 68))])))))))
 (.seq
 (.reg [.l (some 2) false none (.mv (.c (.i .i64 0)))])
 .ret)))
def r85 : List MR := [.t 2]
theorem is85 : FnIs Tryz.prog 85 69 m85 r85 := ⟨by kernel_rfl, Tryz.f85, _, Tryz.func85, rfl, by decide, rfl, by kernel_rfl, by kernel_rfl⟩

def m86 : MC :=
 (.seq
 (.reg [.h (some 1) none (.box (.t 0)),
 .h (some 2) none (.alloc [.nils, .nils])])
 (.seq
 (.dreg (.light 0 (.l (some 3) false none (.faddr 0 (.t 1))) <|
 (.light 1 (.l (some 4) false none (.load 1 false (.t 3))) <|
 (.light 3 (.l (some 6) false none (.faddr 1 (.t 1))) <|
 (.light 4 (.l (some 7) false none (.load 1 false (.t 6))) <|
 (.heavy 2 [3, 4] (.h (some 5) none (.call (.c (.fn (.func 118) [] [])) [.t 4]))
 (.heavy 5 [] (.h (some 8) none (.call (.c (.fn (.func 119) [] [])) [.t 7]))
 (.light 6 (.l (some 9) false none (.build [.nils, .nils] [(0, 1, .t 5), (1, 1, .t 8)])) <|
 (.heavy 7 [] (.h none none (.store 2 (.t 2) (.t 9)))
 .fin
 .nil))
 .nil)
 .nil))))))
 .ret))
def r86 : List MR := [.cell 2 2 true]
theorem is86 : FnIs Tryz.prog 86 10 m86 r86 := ⟨by kernel_rfl, Tryz.f86, _, Tryz.func86, rfl, by decide, rfl, by kernel_rfl, by kernel_rfl⟩

def m87 : MC :=
 (.seq
 (.reg [.l (some 2) false none (.mv (.c (.ff)))])
 (.seq
 (.reg [.l (some 3) false none (.mv (.t 0)),
 .l (some 4) false none (.len true (.t 3)),
 .l (some 5) false none (.bin .geq (.t 4) (.c (.i .i64 1))),
 .l (some 6) true none (.mv (.t 5)),
 .l (some 7) false (some (6, true)) (.mv (.t 0)),
 .l (some 8) false (some (6, true)) (.len true (.t 7)),
 .l (some 9) false (some (6, true)) (.bin .leq (.t 8) (.c (.i .i64 100))),
 .l (some 10) false none (.pick (.t 6) (.t 9) (.c (.ff))),
 .l (some 2) false none (.mv (.t 10))])
 .ret))
def r87 : List MR := [.t 2]
theorem is87 : FnIs Tryz.prog 87 11 m87 r87 := ⟨by kernel_rfl, Tryz.f87, _, Tryz.func87, rfl, by decide, rfl, by kernel_rfl, by kernel_rfl⟩

def m88 : MC :=
 (.seq
 (.reg [.h (some 1) none (.box (.t 0)),
 .h (some 2) none (.alloc [.nils, .nils]),
 .l (some 3) false none (.mv (.c (.i .i64 0)))])
 (.seq
 (.reg [.l (some 5) false none (.faddr 0 (.t 1)),
 .l (some 6) false none (.load 1 false (.t 5)),
 .h (some 7) none (.call (.c (.fn (.func 118) [] [])) [.t 6]),
 .l (some 8) false none (.build [.nils, .nils] [(0, 1, .t 7)]),
 .h (some 4) none (.alloc [.nils, .nils]),
 .h none none (.store 2 (.t 4) (.t 8))])
 (.seq
 (.seq
 (.reg [.l (some 9) false none (.faddr 1 (.t 1)),
 .l (some 10) false none (.load 1 false (.t 9)),
 .l (some 11) false none (.len false (.t 10)),
 .l (some 12) false none (.bin .eql (.t 11) (.c (.i .i64 0)))])
 (.cond (.t 12)
 (.seq
 (.reg [.l (some 13) false none (.load 2 true (.t 4)),
 .h none none (.store 2 (.t 2) (.t 13)),
 .l (some 3) false none (.mv (.c (.i .i64 0)))])
 .ret)
 .skip))
 (.seq
 (.reg [.l (some 14) false none (.faddr 1 (.t 1)),
 .l (some 15) false none (.load 1 false (.t 14)),
 .l (some 16) false none (.slc 1 (.t 15) (some (.c (.i .i64 1))) none),
 .h (some 17) none (.call (.c (.fn (.func 119) [] [])) [.t 16]),
 .l (some 18) false none (.faddr 1 (.t 4)),
 .h none none (.store 1 (.t 18) (.t 17))])
 (.seq
 (.dreg (.light 0 (.l (some 19) false none (.load 2 true (.t 4))) <|
 (.light 1 (.l (some 20) false none (.faddr 1 (.t 1))) <|
 (.light 2 (.l (some 21) false none (.load 1 false (.t 20))) <|
 (.light 3 (.l (some 22) false none (.iaddr 1 (.t 21) (.c (.i .i64 0)))) <|
 (.light 4 (.l (some 23) false none (.load 1 false (.t 22))) <|
 (.heavy 5 [1, 2, 3, 4] (.h none none (.store 2 (.t 2) (.t 19)))
 (.light 6 (.l (some 3) false none (.mv (.t 23))) <|
 .fin)
 .nil)))))))
 .ret)))))
def r88 : List MR := [.cell 2 2 true, .t 3]
theorem is88 : FnIs Tryz.prog 88 24 m88 r88 := ⟨by kernel_rfl, Tryz.f88, _, Tryz.func88, rfl, by decide, rfl, by kernel_rfl, by kernel_rfl⟩

def m89 : MC :=
 (.seq
 (.reg [.h (some 2) none (.box (.t 0)),
 .l (some 4) false none (.mv (.c (.i .i64 0))),
 .l (some 5) false none (.mv (.c (.ff)))])
 (.seq
 (.reg [.l (some 6) false none (.faddr 0 (.t 2)),
 .l (some 7) false none (.load 1 false (.t 6)),
 .l (some 8) false none (.mv (.t 1)),
 .h (some 9) none (.call (.c (.fn (.func 120) [] [])) [.t 7, .t 8, .c (.fn (.func 121) [] [])]),
 .l (some 10) false none (.ext (.t 9) 0),
 .l (some 11) false none (.ext (.t 9) 1),
 .l (some 4) false none (.mv (.t 10)),
 .l (some 5) false none (.mv (.t 11))])
 .ret))
def r89 : List MR := [.t 4, .t 5]
theorem is89 : FnIs Tryz.prog 89 12 m89 r89 := ⟨by kernel_rfl, Tryz.f89, _, Tryz.func89, rfl, by decide, rfl, by kernel_rfl, by kernel_rfl⟩

def m90 : MC :=
 (.seq
 (.reg [.l (some 6) false none (.mv (.c (.nils)))])
 (.seq
 (.reg [.l (some 8) false none (.mv (.t 0)),
 .l (some 9) false none (.mv (.t 1)),
 .l (some 10) false none (.mv (.t 2)),
 .l (some 11) false none (.mv (.t 0)),
 .l (some 12) false none (.len false (.t 11)),
 .l (some 13) false none (.slc3 4 (.t 8) (some (.t 9)) (some (.t 10)) (.t 12))])
 (.seq
 (.seq
 (.reg [.l (some 14) false none (.mv (.t 1)),
 .l (some 15) false none (.mv (.t 2)),
 .l (some 16) false none (.bin .eql (.t 14) (.t 15))])
 (.cond (.t 16)
 (.seq
 (.reg [.l (some 17) false none (.mv (.t 0)),
 .l (some 6) false none (.mv (.t 17))])
 .ret)
 .skip))
 (.seq
 (.reg [.l (some 18) false none (.mv (.t 0)),
 .l (some 19) false none (.len false (.t 18)),
 .l (some 7) false none (.mv (.t 19))])
 (.seq
 (.dreg (.light 0 (.l (some 20) false none (.mv (.t 0))) <|
 (.light 1 (.l (some 21) false none (.mv (.t 1))) <|
 (.light 2 (.l (some 22) false none (.slc 4 (.t 20) none (some (.t 21)))) <|
 (.light 3 (.l (some 23) false none (.mv (.t 0))) <|
 (.light 4 (.l (some 24) false none (.mv (.t 2))) <|
 (.light 5 (.l (some 25) false none (.slc 4 (.t 23) (some (.t 24)) none)) <|
 (.heavy 6 [] (.h (some 26) none (.app 4 56 (.t 22) (.t 25)))
 (.light 7 (.l (some 0) false none (.mv (.t 26))) <|
 .fin)
 .nil))))))))
 (.seq
 (.reg [.l (some 27) false none (.mv (.t 0)),
 .l (some 28) false none (.mv (.t 0)),
 .l (some 29) false none (.len false (.t 28)),
 .l (some 30) false none (.mv (.t 7)),
 .l (some 31) false none (.slc 4 (.t 27) (some (.t 29)) (some (.t 30))),
 .h none none (.clear 4 [.s ⟨#[]⟩, .s ⟨#[]⟩, .s ⟨#[]⟩, .ff] (.t 31))])
 (.seq
 (.reg [.l (some 32) false none (.mv (.t 0)),
 .l (some 6) false none (.mv (.t 32))])
 .ret)))))))
def r90 : List MR := [.t 6]
theorem is90 : FnIs Tryz.prog 90 33 m90 r90 := ⟨by kernel_rfl, Tryz.f90, _, Tryz.func90, rfl, by decide, rfl, by kernel_rfl, by kernel_rfl⟩

def m91 : MC :=
 (.seq
 (.reg [.l (some 4) false none (.mv (.c (.ff)))])
 (.seq
 (.reg [.l (some 5) false none (.mv (.t 0)),
 .l (some 6) false none (.mv (.t 1)),
 .h (some 7) none (.call (.c (.fn (.func 123) [] [])) [.t 5, .t 6]),
 .l (some 4) false none (.mv (.t 7))])
 .ret))
def r91 : List MR := [.t 4]
theorem is91 : FnIs Tryz.prog 91 8 m91 r91 := ⟨by kernel_rfl, Tryz.f91, _, Tryz.func91, rfl, by decide, rfl, by kernel_rfl, by kernel_rfl⟩

def m106 : MC :=
 (.seq
 (.reg [.l (some 2) false none (.mv (.c (.s ⟨#[]⟩)))])
 (.seq
 (.seq
 (.reg [.l (some 4) false none (.mv (.t 0)),
 .l (some 5) false none (.bin .eql (.t 4) (.c (.s ⟨#[]⟩)))])
 (.cond (.t 5)
 (.seq
 (.reg [.l (some 2) false none (.mv (.c (.s ⟨#[]⟩)))])
 .ret)
 .skip))
 (.seq
 (.reg [.l (some 6) false none (.mv (.t 0)),
 .l (some 7) false none (.len true (.t 6)),
 .l (some 8) false none (.bin .sub (.t 7) (.c (.i .i64 1))),
 .l (some 3) false none (.mv (.t 8))])
 (.seq
 (.dreg (.light 0 (.l (some 9) false none (.mv (.t 0))) <|
 (.light 1 (.l (some 10) false none (.mv (.t 3))) <|
 (.light 2 (.l (some 11) false none (.slcS (.t 9) none (some (.t 10)))) <|
 (.light 3 (.l (some 12) false none (.mv (.t 0))) <|
 (.light 4 (.l (some 13) false none (.mv (.t 3))) <|
 (.light 5 (.l (some 14) false none (.idxS (.t 12) (.t 13))) <|
 (.light 6 (.l (some 15) false none (.bin .xor (.t 14) (.c (.i .u8 1)))) <|
 (.heavy 7 [0, 1, 2] (.h (some 16) none (.bslice 1 1 [.i .u8 0] [(0, 1, .t 15)]))
 (.light 8 (.l (some 17) false none (.b2s (.t 16))) <|
 (.light 9 (.l (some 18) false none (.bin .add (.t 11) (.t 17))) <|
 (.light 10 (.l (some 2) false none (.mv (.t 18))) <|
 .fin)))
 .nil)))))))))
 .ret))))
def r106 : List MR := [.t 2]
theorem is106 : FnIs Tryz.prog 106 19 m106 r106 := ⟨by kernel_rfl, Tryz.f106, _, Tryz.func106, rfl, by decide, rfl, by kernel_rfl, by kernel_rfl⟩

def m107 : MC :=
 (.seq
 (.reg [.l (some 6) false none (.mv (.c (.nils)))])
 (.seq
 (.reg [.l (some 10) false none (.mv (.t 0)),
 .l (some 11) false none (.mv (.t 1)),
 .l (some 12) false none (.slc 4 (.t 10) (some (.t 11)) none)])
 (.seq
 (.reg [.l (some 13) false none (.mv (.t 2)),
 .l (some 14) false none (.len false (.t 13)),
 .l (some 7) false none (.mv (.t 14))])
 (.seq
 (.seq
 (.reg [.l (some 15) false none (.mv (.t 7)),
 .l (some 16) false none (.bin .eql (.t 15) (.c (.i .i64 0)))])
 (.cond (.t 16)
 (.seq
 (.reg [.l (some 17) false none (.mv (.t 0)),
 .l (some 6) false none (.mv (.t 17))])
 .ret)
 .skip))
 (.seq
 (.reg [.l (some 18) false none (.mv (.t 0)),
 .l (some 19) false none (.len false (.t 18)),
 .l (some 8) false none (.mv (.t 19))])
 (.seq
 (.seq
 (.reg [.l (some 20) false none (.mv (.t 1)),
 .l (some 21) false none (.mv (.t 8)),
 .l (some 22) false none (.bin .eql (.t 20) (.t 21))])
 (.cond (.t 22)
 (.seq
 (.reg [.l (some 23) false none (.mv (.t 0)),
 .l (some 24) false none (.mv (.t 2)),
 .h (some 25) none (.app 4 56 (.t 23) (.t 24)),
 .l (some 6) false none (.mv (.t 25))])
 .ret)
 .skip))
 (.seq
 (.seq
 (.reg [.l (some 26) false none (.mv (.t 8)),
 .l (some 27) false none (.mv (.t 7)),
 .l (some 28) false none (.bin .add (.t 26) (.t 27)),
 .l (some 29) false none (.mv (.t 0)),
 .l (some 30) false none (.cap (.t 29)),
 .l (some 31) false none (.bin .gtr (.t 28) (.t 30))])
 (.cond (.t 31)
 (.seq
 (.reg [.l (some 32) false none (.mv (.t 0)),
 .l (some 33) false none (.mv (.t 1)),
 .l (some 34) false none (.slc 4 (.t 32) none (some (.t 33))),
 .l (some 35) false none (.mv (.t 8)),
 .l (some 36) false none (.mv (.t 7)),
 .l (some 37) false none (.bin .add (.t 35) (.t 36)),
 .l (some 38) false none (.mv (.t 1)),
 .l (some 39) false none (.bin .sub (.t 37) (.t 38)),
 .h (some 40) none (.appz 4 56 [.s ⟨#[]⟩, .s ⟨#[]⟩, .s ⟨#[]⟩, .ff] (.t 34) (.t 39)),
 .l (some 9) false none (.mv (.t 40))])
 (.seq
 (.reg [.l (some 41) false none (.mv (.t 9)),
 .l (some 42) false none (.mv (.t 1)),
 .l (some 43) false none (.slc 4 (.t 41) (some (.t 42)) none),
 .l (some 44) false none (.mv (.t 2)),
 .h (some 45) none (.copy 4 (.t 43) (.t 44))])
 (.seq
 (.dreg (.light 0 (.l (some 46) false none (.mv (.t 9))) <|
 (.light 1 (.l (some 47) false none (.mv (.t 1))) <|
 (.light 2 (.l (some 48) false none (.mv (.t 7))) <|
 (.light 3 (.l (some 49) false none (.bin .add (.t 47) (.t 48))) <|
 (.light 4 (.l (some 50) false none (.slc 4 (.t 46) (some (.t 49)) none)) <|
 (.light 5 (.l (some 51) false none (.mv (.t 0))) <|
 (.light 6 (.l (some 52) false none (.mv (.t 1))) <|
 (.light 7 (.l (some 53) false none (.slc 4 (.t 51) (some (.t 52)) none)) <|
 (.heavy 8 [] (.h (some 54) none (.copy 4 (.t 50) (.t 53)))
 .fin
 .nil))))))))))
 (.seq
 (.reg [.l (some 55) false none (.mv (.t 9)),
 .l (some 6) false none (.mv (.t 55))])
 .ret))))
 .skip))
 (.seq
 (.reg [.l (some 56) false none (.mv (.t 0)),
 .l (some 57) false none (.mv (.t 8)),
 .l (some 58) false none (.mv (.t 7)),
 .l (some 59) false none (.bin .add (.t 57) (.t 58)),
 .l (some 60) false none (.slc 4 (.t 56) none (some (.t 59))),
 .l (some 0) false none (.mv (.t 60))])
 (.seq
 (.seq
 (.reg [.l (some 61) false none (.mv (.t 2)),
 .l (some 62) false none (.mv (.t 0)),
 .l (some 63) false none (.mv (.t 1)),
 .l (some 64) false none (.mv (.t 7)),
 .l (some 65) false none (.bin .add (.t 63) (.t 64)),
 .l (some 66) false none (.slc 4 (.t 62) (some (.t 65)) none),
 .h (some 67) none (.call (.c (.fn (.func 146) [] [])) [.t 61, .t 66]),
 .l (some 68) false none (.un .not (.t 67))])
 (.cond (.t 68)
 (.seq
 (.dreg (.light 0 (.l (some 69) false none (.mv (.t 0))) <|
 (.light 1 (.l (some 70) false none (.mv (.t 1))) <|
 (.light 2 (.l (some 71) false none (.mv (.t 7))) <|
 (.light 3 (.l (some 72) false none (.bin .add (.t 70) (.t 71))) <|
 (.light 4 (.l (some 73) false none (.slc 4 (.t 69) (some (.t 72)) none)) <|
 (.light 5 (.l (some 74) false none (.mv (.t 0))) <|
 (.light 6 (.l (some 75) false none (.mv (.t 1))) <|
 (.light 7 (.l (some 76) false none (.slc 4 (.t 74) (some (.t 75)) none)) <|
 (.heavy 8 [] (.h (some 77) none (.copy 4 (.t 73) (.t 76)))
 .fin
 .nil))))))))))
 (.seq
 (.reg [.l (some 78) false none (.mv (.t 0)),
 .l (some 79) false none (.mv (.t 1)),
 .l (some 80) false none (.slc 4 (.t 78) (some (.t 79)) none),
 .l (some 81) false none (.mv (.t 2)),
 .h (some 82) none (.copy 4 (.t 80) (.t 81))])
 (.seq
 (.reg [.l (some 83) false none (.mv (.t 0)),
 .l (some 6) false none (.mv (.t 83))])
 .ret)))
 .skip))
 (.seq
 (.reg [.l (some 84) false none (.mv (.t 0)),
 .l (some 85) false none (.mv (.t 8)),
 .l (some 86) false none (.slc 4 (.t 84) (some (.t 85)) none),
 .l (some 87) false none (.mv (.t 2)),
 .h (some 88) none (.copy 4 (.t 86) (.t 87))])
 (.seq
 (.reg [.l (some 89) false none (.mv (.t 0)),
 .l (some 90) false none (.mv (.t 1)),
 .l (some 91) false none (.slc 4 (.t 89) (some (.t 90)) none),
 .l (some 92) false none (.mv (.t 7)),
 .h (some 93) none (.call (.c (.fn (.func 147) [] [])) [.t 91, .t 92])])
 (.seq
 (.reg [.l (some 94) false none (.mv (.t 0)),
 .l (some 6) false none (.mv (.t 94))])
 .ret))))))))))))
def r107 : List MR := [.t 6]
theorem is107 : FnIs Tryz.prog 107 95 m107 r107 := ⟨by kernel_rfl, Tryz.f107, _, Tryz.func107, rfl, by decide, rfl, by kernel_rfl, by kernel_rfl⟩

def m118 : MC :=
 (.seq
 (.reg [.l (some 2) false none (.mv (.c (.nils)))])
 (.seq
 (.seq
 (.reg [.l (some 3) false none (.mv (.t 0)),
 .h (some 4) none (.eqn false (.t 3))])
 (.cond (.t 4)
 (.seq
 (.reg [.l (some 2) false none (.mv (.c (.nils)))])
 .ret)
 .skip))
 (.seq
 (.reg [.h (some 5) none (.bslice 4 0 [.s ⟨#[]⟩, .s ⟨#[]⟩, .s ⟨#[]⟩, .ff] []),
 .l (some 6) false none (.mv (.t 0)),
 .h (some 7) none (.app 4 56 (.t 5) (.t 6)),
 .l (some 2) false none (.mv (.t 7))])
 .ret)))
def r118 : List MR := [.t 2]
theorem is118 : FnIs Tryz.prog 118 8 m118 r118 := ⟨by kernel_rfl, Tryz.f118, _, Tryz.func118, rfl, by decide, rfl, by kernel_rfl, by kernel_rfl⟩

def m119 : MC :=
 (.seq
 (.reg [.l (some 2) false none (.mv (.c (.nils)))])
 (.seq
 (.seq
 (.reg [.l (some 3) false none (.mv (.t 0)),
 .h (some 4) none (.eqn false (.t 3))])
 (.cond (.t 4)
 (.seq
 (.reg [.l (some 2) false none (.mv (.c (.nils)))])
 .ret)
 .skip))
 (.seq
 (.reg [.h (some 5) none (.bslice 1 0 [.i .i64 0] []),
 .l (some 6) false none (.mv (.t 0)),
 .h (some 7) none (.app 1 8 (.t 5) (.t 6)),
 .l (some 2) false none (.mv (.t 7))])
 .ret)))
def r119 : List MR := [.t 2]
theorem is119 : FnIs Tryz.prog 119 8 m119 r119 := ⟨by kernel_rfl, Tryz.f119, _, Tryz.func119, rfl, by decide, rfl, by kernel_rfl, by kernel_rfl⟩

def m120 : MC :=
 (.seq
 (.reg [.l (some 6) false none (.mv (.c (.i .i64 0))),
 .l (some 7) false none (.mv (.c (.ff)))])
 (.seq
 (.reg [.l (some 12) false none (.mv (.t 0)),
 .l (some 13) false none (.len false (.t 12)),
 .l (some 8) false none (.mv (.t 13))])
 (.seq
 (.reg [.l (some 14) false none (.mv (.t 8)),
 .l (some 9) false none (.mv (.c (.i .i64 0))),
 .l (some 10) false none (.mv (.t 14))])
 (.seq
 (.block 0
 (.loop
 (.seq
 (.seq
 (.reg [.l (some 15) false none (.mv (.t 9)),
 .l (some 16) false none (.mv (.t 10)),
 .l (some 17) false none (.bin .lss (.t 15) (.t 16))])
 (.cond (.t 17)
 .skip
 (.exit 0)))
 (.block 1
 (.seq
 (.reg [.l (some 18) false none (.mv (.t 9)),
 .l (some 19) false none (.mv (.t 10)),
 .l (some 20) false none (.bin .add (.t 18) (.t 19)),
 .l (some 21) false none (.conv .u64 (.t 20)),
 .l (some 22) false none (.bin .shr (.t 21) (.c (.i .u64 1))),
 .l (some 23) false none (.conv .i64 (.t 22)),
 .l (some 11) false none (.mv (.t 23))])
 (.seq
 (.reg [.l (some 24) false none (.mv (.t 2)),
 .l (some 25) false none (.mv (.t 0)),
 .l (some 26) false none (.mv (.t 11)),
 .l (some 27) false none (.iaddr 4 (.t 25) (.t 26)),
 .l (some 28) false none (.load 4 true (.t 27)),
 .l (some 29) false none (.mv (.t 1)),
 .h (some 30) none (.call (.t 24) [.t 28, .t 29]),
 .l (some 31) false none (.bin .lss (.t 30) (.c (.i .i64 0)))])
 (.cond (.t 31)
 (.reg [.l (some 32) false none (.mv (.t 11)),
 .l (some 33) false none (.bin .add (.t 32) (.c (.i .i64 1))),
 .l (some 9) false none (.mv (.t 33))])
 (.reg [.l (some 34) false none (.mv (.t 11)),
 .l (some 10) false none (.mv (.t 34))]))))))))
 (.seq
 (.reg [.l (some 35) false none (.mv (.t 9)),
 .l (some 36) false none (.mv (.t 9)),
 .l (some 37) false none (.mv (.t 8)),
 .l (some 38) false none (.bin .lss (.t 36) (.t 37)),
 .l (some 39) true none (.mv (.t 38)),
 .l (some 40) false (some (39, true)) (.mv (.t 2)),
 .l (some 41) false (some (39, true)) (.mv (.t 0)),
 .l (some 42) false (some (39, true)) (.mv (.t 9)),
 .l (some 43) false (some (39, true)) (.iaddr 4 (.t 41) (.t 42)),
 .l (some 44) false (some (39, true)) (.load 4 true (.t 43)),
 .l (some 45) false (some (39, true)) (.mv (.t 1)),
 .h (some 46) (some (39, true)) (.call (.t 40) [.t 44, .t 45]),
 .l (some 47) false (some (39, true)) (.bin .eql (.t 46) (.c (.i .i64 0))),
 .l (some 48) false none (.pick (.t 39) (.t 47) (.c (.ff))),
 .l (some 6) false none (.mv (.t 35)),
 .l (some 7) false none (.mv (.t 48))])
 .ret)))))
def r120 : List MR := [.t 6, .t 7]
theorem is120 : FnIs Tryz.prog 120 49 m120 r120 := ⟨by kernel_rfl, Tryz.f120, _, Tryz.func120, rfl, by decide, rfl, by kernel_rfl, by kernel_rfl⟩

def m121 : MC :=
 (.seq
 (.reg [.h (some 2) none (.box (.t 0)),
 .l (some 4) false none (.mv (.c (.i .i64 0)))])
 (.seq
 (.reg [.l (some 5) false none (.faddr 0 (.t 2)),
 .l (some 6) false none (.load 1 false (.t 5)),
 .l (some 7) false none (.mv (.t 1)),
 .h (some 8) none (.call (.c (.fn (.func 122) [] [])) [.t 6, .t 7]),
 .l (some 4) false none (.mv (.t 8))])
 .ret))
def r121 : List MR := [.t 4]
theorem is121 : FnIs Tryz.prog 121 9 m121 r121 := ⟨by kernel_rfl, Tryz.f121, _, Tryz.func121, rfl, by decide, rfl, by kernel_rfl, by kernel_rfl⟩

def m122 : MC :=
 (.seq
 (.reg [.l (some 4) false none (.mv (.c (.i .i64 0)))])
 (.seq
 (.reg [.l (some 5) false none (.mv (.t 0)),
 .l (some 6) false none (.mv (.t 1)),
 .h (some 7) none (.call (.c (.fn (.func 162) [] [])) [.t 5, .t 6]),
 .l (some 4) false none (.mv (.t 7))])
 .ret))
def r122 : List MR := [.t 4]
theorem is122 : FnIs Tryz.prog 122 8 m122 r122 := ⟨by kernel_rfl, Tryz.f122, _, Tryz.func122, rfl, by decide, rfl, by kernel_rfl, by kernel_rfl⟩

def m123 : MC :=
 (.seq
 (.reg [.l (some 4) false none (.mv (.c (.ff)))])
 (.seq
 (.reg [.l (some 5) false none (.mv (.t 0)),
 .l (some 6) false none (.len true (.t 5)),
 .l (some 7) false none (.mv (.t 1)),
 .l (some 8) false none (.len true (.t 7)),
 .l (some 9) false none (.bin .geq (.t 6) (.t 8)),
 .l (some 10) true none (.mv (.t 9)),
 .l (some 11) false (some (10, true)) (.mv (.t 0)),
 .l (some 12) false (some (10, true)) (.mv (.t 1)),
 .l (some 13) false (some (10, true)) (.len true (.t 12)),
 .l (some 14) false (some (10, true)) (.slcS (.t 11) none (some (.t 13))),
 .l (some 15) false (some (10, true)) (.mv (.t 1)),
 .l (some 16) false (some (10, true)) (.bin .eql (.t 14) (.t 15)),
 .l (some 17) false none (.pick (.t 10) (.t 16) (.c (.ff))),
 .l (some 4) false none (.mv (.t 17))])
 .ret))
def r123 : List MR := [.t 4]
theorem is123 : FnIs Tryz.prog 123 18 m123 r123 := ⟨by kernel_rfl, Tryz.f123, _, Tryz.func123, rfl, by decide, rfl, by kernel_rfl, by kernel_rfl⟩

def m162 : MC :=
 (.seq
 (.reg [.l (some 4) false none (.mv (.c (.i .i64 0)))])
 (.seq
 (.reg [.l (some 5) false none (.mv (.t 0)),
 .l (some 6) false none (.mv (.t 1)),
 .h (some 7) none (.call (.c (.fn (.func 190) [] [])) [.t 5, .t 6]),
 .l (some 4) false none (.mv (.t 7))])
 .ret))
def r162 : List MR := [.t 4]
theorem is162 : FnIs Tryz.prog 162 8 m162 r162 := ⟨by kernel_rfl, Tryz.f162, _, Tryz.func162, rfl, by decide, rfl, by kernel_rfl, by kernel_rfl⟩

def m169 : MC :=
 (.seq
 (.reg [.l (some 2) false none (.mv (.c (.s ⟨#[]⟩)))])
 (.seq
 (.seq
 (.reg [.l (some 4) false none (.mv (.t 0)),
 .l (some 5) false none (.bin .eql (.t 4) (.c (.s ⟨#[]⟩)))])
 (.cond (.t 5)
 (.seq
 (.reg [.l (some 6) false none (.mv (.t 0)),
 .l (some 2) false none (.mv (.t 6))])
 .ret)
 .skip))
 (.seq
 (.reg [.l (some 7) false none (.mv (.t 0)),
 .l (some 8) false none (.mv (.t 0)),
 .l (some 9) false none (.len true (.t 8)),
 .l (some 10) false none (.bin .sub (.t 9) (.c (.i .i64 1))),
 .l (some 11) false none (.idxS (.t 7) (.t 10)),
 .l (some 3) false none (.mv (.t 11))])
 (.seq
 (.seq
 (.reg [.l (some 12) false none (.mv (.t 3)),
 .l (some 13) false none (.bin .rem (.t 12) (.c (.i .u8 2))),
 .l (some 14) false none (.bin .eql (.t 13) (.c (.i .u8 1)))])
 (.cond (.t 14)
 (.reg [.l (some 15) false none (.mv (.t 3)),
 .l (some 16) false none (.bin .sub (.t 15) (.c (.i .u8 1))),
 .l (some 3) false none (.mv (.t 16))])
 (.reg [.l (some 17) false none (.mv (.t 3)),
 .l (some 18) false none (.bin .add (.t 17) (.c (.i .u8 1))),
 .l (some 3) false none (.mv (.t 18))])))
 (.seq
 (.dreg (.light 0 (.l (some 19) false none (.mv (.t 0))) <|
 (.light 1 (.l (some 20) false none (.mv (.t 0))) <|
 (.light 2 (.l (some 21) false none (.len true (.t 20))) <|
 (.light 3 (.l (some 22) false none (.bin .sub (.t 21) (.c (.i .i64 1)))) <|
 (.light 4 (.l (some 23) false none (.slcS (.t 19) none (some (.t 22)))) <|
 (.light 5 (.l (some 24) false none (.mv (.t 3))) <|
 (.heavy 6 [0, 1, 2, 3, 4] (.h (some 25) none (.bslice 1 1 [.i .u8 0] [(0, 1, .t 24)]))
 (.light 7 (.l (some 26) false none (.b2s (.t 25))) <|
 (.light 8 (.l (some 27) false none (.bin .add (.t 23) (.t 26))) <|
 (.light 9 (.l (some 2) false none (.mv (.t 27))) <|
 .fin)))
 .nil))))))))
 .ret)))))
def r169 : List MR := [.t 2]
theorem is169 : FnIs Tryz.prog 169 28 m169 r169 := ⟨by kernel_rfl, Tryz.f169, _, Tryz.func169, rfl, by decide, rfl, by kernel_rfl, by kernel_rfl⟩

end Go.Proofs.T
