/-
  Parts of the proof: no statement of the seat is proved here.
-/
import Derived.Test.YtpcnfokdhiknhaaGreatDoorSpreadPowerGe
import Derived.Test.YtpcnfokdhiknhaaGreatDoorProg
import Derived.KernelRfl
set_option linter.unusedSimpArgs false
set_option linter.unusedVariables false
set_option linter.unusedSectionVars false

set_option maxRecDepth 100000
namespace Go.Proofs.T
open Go Go.Hb
def m10 : MC :=
 (.seq
 (.reg [.l (some 0) false none (.mv (.c (.ff)))])
 (.seq
 (.reg [.h (some 10) none (.call (.c (.fn (.func 12) [] [])) []),
 .h (some 11) none (.call (.c (.fn (.func 13) [] [])) [.t 10, .c (.s ⟨#[97]⟩), .c (.s ⟨#[115, 111, 109, 101, 32, 98, 121, 116, 101, 115]⟩)]),
 .l (some 9) false none (.mv (.t 11)),
 .l (some 12) false none (.ext (.t 9) 0),
 .l (some 13) false none (.ext (.t 9) 1),
 .h (some 1) none (.alloc [.nils, .nils, .nils, .nils, .nils, .nils, .nils, .nils, .nils, .nils, .i .i64 0]),
 .h none none (.store 11 (.t 1) (.t 12)),
 .l (some 2) false none (.mv (.t 13))])
 (.seq
 (.seq
 (.reg [.l (some 14) false none (.mv (.t 2)),
 .l (some 15) false none (.bin .neq (.t 14) (.c (.i .i64 0)))])
 (.cond (.t 15)
 (.seq
 (.reg [.l (some 0) false none (.mv (.c (.ff)))])
 .ret)
 .skip))
 (.seq
 (.reg [.l (some 16) false none (.build [.nils, .nils] []),
 .l (some 17) false none (.build [.s ⟨#[]⟩, .s ⟨#[]⟩, .s ⟨#[]⟩, .ff] [(0, 1, .c (.s ⟨#[97]⟩)), (1, 1, .c (.s ⟨#[120]⟩))]),
 .h (some 18) none (.bslice 4 1 [.s ⟨#[]⟩, .s ⟨#[]⟩, .s ⟨#[]⟩, .ff] [(0, 4, .t 17)]),
 .l (some 19) false none (.build [.nils, .nils] [(0, 1, .t 18)]),
 .l (some 20) false none (.faddr 0 (.t 1)),
 .l (some 21) false none (.iaddrA 5 2 (.t 20) (.c (.i .i64 1))),
 .h none none (.store 2 (.t 21) (.t 16)),
 .l (some 22) false none (.faddr 0 (.t 1)),
 .l (some 23) false none (.iaddrA 5 2 (.t 22) (.c (.i .i64 4))),
 .h none none (.store 2 (.t 23) (.t 19))])
 (.seq
 (.reg [.l (some 25) false none (.load 11 true (.t 1)),
 .h (some 26) none (.call (.c (.fn (.func 14) [] [])) [.t 25, .c (.s ⟨#[97]⟩)]),
 .l (some 24) false none (.mv (.t 26)),
 .l (some 27) false none (.ext (.t 24) 0),
 .l (some 28) false none (.ext (.t 24) 1),
 .l (some 29) false none (.ext (.t 24) 2),
 .h (some 3) none (.alloc [.nils, .nils, .nils, .nils, .nils, .nils, .nils, .nils, .nils, .nils, .i .i64 0]),
 .h none none (.store 11 (.t 3) (.t 27)),
 .l (some 4) false none (.mv (.t 28)),
 .l (some 5) false none (.mv (.t 29))])
 (.seq
 (.reg [.h (some 31) none (.call (.c (.fn (.func 12) [] [])) []),
 .h (some 32) none (.call (.c (.fn (.func 14) [] [])) [.t 31, .c (.s ⟨#[97]⟩)]),
 .l (some 30) false none (.mv (.t 32)),
 .l (some 33) false none (.ext (.t 30) 0),
 .l (some 34) false none (.ext (.t 30) 1),
 .l (some 35) false none (.ext (.t 30) 2),
 .h (some 6) none (.alloc [.nils, .nils, .nils, .nils, .nils, .nils, .nils, .nils, .nils, .nils, .i .i64 0]),
 .h none none (.store 11 (.t 6) (.t 33)),
 .l (some 7) false none (.mv (.t 34)),
 .l (some 8) false none (.mv (.t 35))])
 (.seq
 (.reg [.l (some 36) false none (.mv (.t 4)),
 .l (some 37) false none (.bin .eql (.t 36) (.c (.s ⟨#[115, 111, 109, 101, 32, 98, 121, 116, 101, 115]⟩))),
 .l (some 38) true none (.mv (.t 37)),
 .l (some 39) false (some (38, true)) (.mv (.t 5)),
 .l (some 40) false (some (38, true)) (.bin .eql (.t 39) (.c (.i .i64 0))),
 .l (some 41) false none (.pick (.t 38) (.t 40) (.c (.ff))),
 .l (some 42) true none (.mv (.t 41)),
 .l (some 43) false (some (42, true)) (.mv (.t 8)),
 .l (some 44) false (some (42, true)) (.bin .eql (.t 43) (.c (.i .i64 9))),
 .l (some 45) false none (.pick (.t 42) (.t 44) (.c (.ff))),
 .l (some 0) false none (.mv (.t 45))])
 .ret)))))))
def r10 : List MR := [.t 0]
theorem is10 : FnIs Tryz.prog 10 46 m10 r10 := ⟨by kernel_rfl, Tryz.f10, _, Tryz.func10, rfl, by decide, rfl, by kernel_rfl, by kernel_rfl⟩

def m12 : MC :=
 (.seq
 (.reg [.h (some 0) none (.alloc [.nils, .nils, .nils, .nils, .nils, .nils, .nils, .nils, .nils, .nils, .i .i64 0])])
 (.seq
 (.reg [.l (some 1) false none (.build [.nils, .nils, .nils, .nils, .nils, .nils, .nils, .nils, .nils, .nils, .i .i64 0] [(10, 1, .c (.i .i64 (-1)))]),
 .h none none (.store 11 (.t 0) (.t 1))])
 .ret))
def r12 : List MR := [.cell 0 11 true]
theorem is12 : FnIs Tryz.prog 12 2 m12 r12 := ⟨by kernel_rfl, Tryz.f12, _, Tryz.func12, rfl, by decide, rfl, by kernel_rfl, by kernel_rfl⟩

def m13 : MC :=
 (.seq
 (.reg [.h (some 3) none (.box (.t 0)),
 .h (some 4) none (.box (.t 1)),
 .h (some 5) none (.box (.t 2)),
 .h (some 6) none (.alloc [.nils, .nils, .nils, .nils, .nils, .nils, .nils, .nils, .nils, .nils, .i .i64 0]),
 .l (some 7) false none (.mv (.c (.i .i64 0)))])
 (.seq
 (.seq
 (.reg [.l (some 10) false none (.load 1 false (.t 4)),
 .l (some 11) false none (.load 1 false (.t 5)),
 .l (some 12) false none (.len true (.t 11)),
 .h (some 13) none (.call (.c (.fn (.func 32) [] [])) [.t 10, .t 12]),
 .l (some 8) false none (.mv (.t 13))])
 (.seq
 (.reg [.l (some 14) false none (.mv (.t 8)),
 .l (some 15) false none (.bin .neq (.t 14) (.c (.i .i64 0)))])
 (.cond (.t 15)
 (.seq
 (.reg [.l (some 16) false none (.load 11 true (.t 3)),
 .l (some 17) false none (.mv (.t 8)),
 .h none none (.store 11 (.t 6) (.t 16)),
 .l (some 7) false none (.mv (.t 17))])
 .ret)
 .skip)))
 (.seq
 (.reg [.l (some 18) false none (.load 1 false (.t 5)),
 .h (some 19) none (.call (.c (.fn (.func 33) [] [])) [.t 18]),
 .h (some 9) none (.alloc [.nils]),
 .h none none (.store 1 (.t 9) (.t 19))])
 (.seq
 (.reg [.l (some 20) false none (.load 11 true (.t 3)),
 .l (some 21) false none (.load 1 false (.t 4)),
 .l (some 22) false none (.mkfn (.func 35) [] [.t 9, .t 4, .t 5]),
 .h (some 23) none (.call (.c (.fn (.func 34) [] [])) [.t 20, .t 21, .t 22]),
 .l (some 24) false none (.ext (.t 23) 0),
 .l (some 25) false none (.ext (.t 23) 1),
 .h none none (.store 11 (.t 6) (.t 24)),
 .l (some 7) false none (.mv (.t 25))])
 .ret))))
def r13 : List MR := [.cell 6 11 true, .t 7]
theorem is13 : FnIs Tryz.prog 13 26 m13 r13 := ⟨by kernel_rfl, Tryz.f13, _, Tryz.func13, rfl, by decide, rfl, by kernel_rfl, by kernel_rfl⟩

def m14 : MC :=
 (.seq
 (.reg [.h (some 2) none (.box (.t 0)),
 .h (some 4) none (.alloc [.nils, .nils, .nils, .nils, .nils, .nils, .nils, .nils, .nils, .nils, .i .i64 0]),
 .l (some 5) false none (.mv (.c (.s ⟨#[]⟩))),
 .l (some 6) false none (.mv (.c (.i .i64 0)))])
 (.seq
 (.seq
 (.reg [.l (some 20) false none (.mv (.t 1)),
 .h (some 21) none (.call (.c (.fn (.func 32) [] [])) [.t 20, .c (.i .i64 0)]),
 .l (some 7) false none (.mv (.t 21))])
 (.seq
 (.reg [.l (some 22) false none (.mv (.t 7)),
 .l (some 23) false none (.bin .neq (.t 22) (.c (.i .i64 0)))])
 (.cond (.t 23)
 (.seq
 (.reg [.l (some 24) false none (.load 11 true (.t 2)),
 .l (some 25) false none (.mv (.t 7)),
 .h none none (.store 11 (.t 4) (.t 24)),
 .l (some 5) false none (.mv (.c (.s ⟨#[]⟩))),
 .l (some 6) false none (.mv (.t 25))])
 .ret)
 .skip)))
 (.seq
 (.reg [.l (some 27) false none (.load 11 true (.t 2)),
 .l (some 28) false none (.mv (.t 1)),
 .h (some 29) none (.call (.c (.fn (.func 40) [] [])) [.t 27, .t 28]),
 .l (some 26) false none (.mv (.t 29)),
 .l (some 30) false none (.ext (.t 26) 0),
 .l (some 31) false none (.ext (.t 26) 1),
 .l (some 32) false none (.ext (.t 26) 2),
 .h (some 8) none (.alloc [.s ⟨#[]⟩, .nils, .i .i64 0, .s ⟨#[]⟩, .nils, .i .i64 0, .s ⟨#[]⟩, .nils, .i .i64 0, .s ⟨#[]⟩, .nils, .i .i64 0, .s ⟨#[]⟩, .nils, .i .i64 0]),
 .h none none (.store 11 (.t 2) (.t 30)),
 .h none none (.store 15 (.t 8) (.t 31)),
 .l (some 9) false none (.mv (.t 32))])
 (.seq
 (.reg [.l (some 10) false none (.mv (.c (.nils)))])
 (.seq
 (.seq
 (.reg [.l (some 33) false none (.load 15 true (.t 8)),
 .l (some 34) false none (.mv (.c (.i .i64 0)))])
 (.block 0
 (.loop
 (.seq
 (.reg [.l (some 35) false none (.bin .lss (.t 34) (.c (.i .i64 5)))])
 (.seq
 (.cond (.t 35)
 .skip
 (.exit 0))
 (.seq
 (.block 1
 (.seq
 (.reg [.l (some 36) false none (.mv (.t 34)),
 .l (some 37) false none (.idxA 5 3 true (.t 33) (.t 34)),
 .h (some 12) none (.alloc [.s ⟨#[]⟩, .nils, .i .i64 0]),
 .l (some 11) false none (.mv (.t 36)),
 .h none none (.store 3 (.t 12) (.t 37))])
 (.seq
 (.reg [.l (some 39) false none (.mv (.t 1)),
 .l (some 40) false none (.mv (.t 11)),
 .l (some 41) false none (.faddr 0 (.t 12)),
 .l (some 42) false none (.load 1 false (.t 41)),
 .h (some 43) none (.call (.c (.fn (.func 41) [] [])) [.t 39, .t 40, .t 42]),
 .l (some 38) false none (.mv (.t 43)),
 .l (some 44) false none (.ext (.t 38) 0),
 .l (some 45) false none (.ext (.t 38) 1),
 .h (some 13) none (.alloc [.i .i64 0, .s ⟨#[]⟩, .i .i64 0, .s ⟨#[]⟩]),
 .h none none (.store 4 (.t 13) (.t 44)),
 .l (some 14) false none (.mv (.t 45))])
 (.seq
 (.reg [.l (some 46) false none (.mv (.t 14)),
 .l (some 47) true none (.mv (.t 46)),
 .l (some 48) false (some (47, true)) (.faddr 2 (.t 12)),
 .l (some 49) false (some (47, true)) (.load 1 false (.t 48)),
 .l (some 50) false (some (47, true)) (.bin .eql (.t 49) (.c (.i .i64 0))),
 .l (some 51) false none (.pick (.t 47) (.t 50) (.c (.ff)))])
 (.cond (.t 51)
 (.reg [.l (some 52) false none (.mv (.t 10)),
 .l (some 53) false none (.load 4 true (.t 13)),
 .h (some 54) none (.bslice 4 1 [.i .i64 0, .s ⟨#[]⟩, .i .i64 0, .s ⟨#[]⟩] [(0, 4, .t 53)]),
 .h (some 55) none (.app 4 48 (.t 52) (.t 54)),
 .l (some 10) false none (.mv (.t 55))])
 .skip)))))
 (.reg [.l (some 56) false none (.bin .add (.t 34) (.c (.i .i64 1))),
 .l (some 34) false none (.mv (.t 56))])))))))
 (.seq
 (.seq
 (.reg [.l (some 57) false none (.mv (.t 10)),
 .l (some 58) false none (.len false (.t 57)),
 .l (some 59) false none (.mv (.c (.i .i64 0)))])
 (.block 2
 (.loop
 (.seq
 (.reg [.l (some 60) false none (.bin .lss (.t 59) (.t 58))])
 (.seq
 (.cond (.t 60)
 .skip
 (.exit 2))
 (.seq
 (.block 3
 (.seq
 (.reg [.l (some 61) false none (.mv (.t 59)),
 .l (some 15) false none (.mv (.t 61))])
 (.seq
 (.reg [.l (some 62) false none (.mv (.t 15)),
 .l (some 63) false none (.bin .add (.t 62) (.c (.i .i64 1))),
 .l (some 16) false none (.mv (.t 63))])
 (.block 4
 (.loop
 (.seq
 (.seq
 (.reg [.l (some 64) false none (.mv (.t 16)),
 .l (some 65) false none (.mv (.t 10)),
 .l (some 66) false none (.len false (.t 65)),
 .l (some 67) false none (.bin .lss (.t 64) (.t 66))])
 (.cond (.t 67)
 .skip
 (.exit 4)))
 (.seq
 (.block 5
 (.seq
 (.reg [.l (some 70) false none (.mv (.t 16)),
 .l (some 71) false none (.bin .add (.t 70) (.c (.i .i64 1))),
 .l (some 17) false none (.mv (.t 71))])
 (.block 6
 (.loop
 (.seq
 (.seq
 (.reg [.l (some 72) false none (.mv (.t 17)),
 .l (some 73) false none (.mv (.t 10)),
 .l (some 74) false none (.len false (.t 73)),
 .l (some 75) false none (.bin .lss (.t 72) (.t 74))])
 (.cond (.t 75)
 .skip
 (.exit 6)))
 (.seq
 (.block 7
 (.seq
 (.dreg (.light 0 (.l (some 79) false none (.mv (.t 10))) <|
 (.light 1 (.l (some 80) false none (.mv (.t 15))) <|
 (.light 2 (.l (some 81) false none (.iaddr 4 (.t 79) (.t 80))) <|
 (.light 3 (.l (some 82) false none (.load 4 true (.t 81))) <|
 (.light 4 (.l (some 83) false none (.mv (.t 10))) <|
 (.light 5 (.l (some 84) false none (.mv (.t 16))) <|
 (.light 6 (.l (some 85) false none (.iaddr 4 (.t 83) (.t 84))) <|
 (.light 7 (.l (some 86) false none (.load 4 true (.t 85))) <|
 (.light 8 (.l (some 87) false none (.mv (.t 10))) <|
 (.light 9 (.l (some 88) false none (.mv (.t 17))) <|
 (.light 10 (.l (some 89) false none (.iaddr 4 (.t 87) (.t 88))) <|
 (.light 11 (.l (some 90) false none (.load 4 true (.t 89))) <|
 (.heavy 12 [] (.h (some 91) none (.call (.c (.fn (.func 42) [] [])) [.t 82, .t 86, .t 90]))
 (.light 13 (.l (some 78) false none (.mv (.t 91))) <|
 (.light 14 (.l (some 92) false none (.ext (.t 78) 0)) <|
 (.light 15 (.l (some 93) false none (.ext (.t 78) 1)) <|
 (.light 16 (.l (some 18) false none (.mv (.t 92))) <|
 (.light 17 (.l (some 19) false none (.mv (.t 93))) <|
 .fin)))))
 .nil))))))))))))))
 (.seq
 (.reg [.l (some 94) false none (.mv (.t 19))])
 (.cond (.t 94)
 (.seq
 (.reg [.l (some 95) false none (.load 11 true (.t 2)),
 .l (some 96) false none (.mv (.t 18)),
 .h none none (.store 11 (.t 4) (.t 95)),
 .l (some 5) false none (.mv (.t 96)),
 .l (some 6) false none (.mv (.c (.i .i64 0)))])
 .ret)
 .skip))))
 (.reg [.l (some 76) false none (.mv (.t 17)),
 .l (some 77) false none (.bin .add (.t 76) (.c (.i .i64 1))),
 .l (some 17) false none (.mv (.t 77))])))))))
 (.reg [.l (some 68) false none (.mv (.t 16)),
 .l (some 69) false none (.bin .add (.t 68) (.c (.i .i64 1))),
 .l (some 16) false none (.mv (.t 69))]))))))))
 (.reg [.l (some 97) false none (.bin .add (.t 59) (.c (.i .i64 1))),
 .l (some 59) false none (.mv (.t 97))])))))))
 (.seq
 (.dreg (.light 0 (.l (some 98) false none (.load 11 true (.t 2))) <|
 (.light 1 (.l (some 99) false none (.load 15 true (.t 8))) <|
 (.light 2 (.l (some 100) false none (.mv (.t 9))) <|
 (.heavy 3 [0] (.h (some 101) none (.call (.c (.fn (.func 43) [] [])) [.t 99, .t 100]))
 (.heavy 4 [] (.h none none (.store 11 (.t 4) (.t 98)))
 (.light 5 (.l (some 5) false none (.mv (.c (.s ⟨#[]⟩)))) <|
 (.light 6 (.l (some 6) false none (.mv (.t 101))) <|
 .fin))
 .nil)
 .nil)))))
 .ret)))))))
def r14 : List MR := [.cell 4 11 true, .t 5, .t 6]
theorem is14 : FnIs Tryz.prog 14 102 m14 r14 := ⟨by kernel_rfl, Tryz.f14, _, Tryz.func14, rfl, by decide, rfl, by kernel_rfl, by kernel_rfl⟩

def m15 : MC :=
 (.seq
 (.reg [.h (some 2) none (.box (.t 0)),
 .h (some 3) none (.box (.t 1)),
 .h (some 4) none (.alloc [.nils, .nils, .nils, .nils, .nils, .nils, .nils, .nils, .nils, .nils, .i .i64 0])])
 (.seq
 (.dreg (.light 0 (.l (some 5) false none (.faddr 0 (.t 3))) <|
 (.light 1 (.l (some 6) false none (.load 1 false (.t 5))) <|
 (.light 2 (.l (some 7) false none (.bin .rem (.t 6) (.c (.i .u8 5)))) <|
 (.light 3 (.l (some 8) false none (.faddr 1 (.t 3))) <|
 (.light 4 (.l (some 9) false none (.load 1 false (.t 8))) <|
 (.light 5 (.l (some 10) false none (.bin .rem (.t 9) (.c (.i .u8 5)))) <|
 (.light 6 (.l (some 11) false none (.faddr 2 (.t 3))) <|
 (.light 7 (.l (some 12) false none (.load 2 true (.t 11))) <|
 (.light 8 (.l (some 13) false none (.faddr 4 (.t 3))) <|
 (.light 9 (.l (some 14) false none (.load 2 true (.t 13))) <|
 (.light 10 (.l (some 15) false none (.faddr 0 (.t 2))) <|
 (.light 11 (.l (some 16) false none (.iaddrA 5 2 (.t 15) (.t 7))) <|
 (.light 13 (.l (some 17) false none (.faddr 0 (.t 2))) <|
 (.heavy 12 [3, 4, 5, 8, 9, 13] (.h none none (.store 2 (.t 16) (.t 12)))
 (.light 14 (.l (some 18) false none (.iaddrA 5 2 (.t 17) (.t 10))) <|
 (.heavy 15 [] (.h none none (.store 2 (.t 18) (.t 14)))
 .fin
 .nil))
 .nil)))))))))))))))
 (.seq
 (.reg [.l (some 19) false none (.load 11 true (.t 2)),
 .h none none (.store 11 (.t 4) (.t 19))])
 .ret)))
def r15 : List MR := [.cell 4 11 true]
theorem is15 : FnIs Tryz.prog 15 20 m15 r15 := ⟨by kernel_rfl, Tryz.f15, _, Tryz.func15, rfl, by decide, rfl, by kernel_rfl, by kernel_rfl⟩

def m17 : MC :=
 (.seq
 (.reg [.h (some 3) none (.box (.t 0)),
 .h (some 5) none (.box (.t 2)),
 .h (some 6) none (.alloc [.nils, .nils, .nils, .nils, .nils, .nils, .nils, .nils, .nils, .nils, .i .i64 0]),
 .l (some 7) false none (.mv (.c (.i .i64 0)))])
 (.seq
 (.seq
 (.reg [.l (some 9) false none (.mv (.t 1)),
 .l (some 10) false none (.load 1 false (.t 5)),
 .l (some 11) false none (.len true (.t 10)),
 .h (some 12) none (.call (.c (.fn (.func 32) [] [])) [.t 9, .t 11]),
 .l (some 8) false none (.mv (.t 12))])
 (.seq
 (.reg [.l (some 13) false none (.mv (.t 8)),
 .l (some 14) false none (.bin .neq (.t 13) (.c (.i .i64 0)))])
 (.cond (.t 14)
 (.seq
 (.reg [.l (some 15) false none (.load 11 true (.t 3)),
 .l (some 16) false none (.mv (.t 8)),
 .h none none (.store 11 (.t 6) (.t 15)),
 .l (some 7) false none (.mv (.t 16))])
 .ret)
 .skip)))
 (.seq
 (.reg [.l (some 17) false none (.load 11 true (.t 3)),
 .l (some 18) false none (.mv (.t 1)),
 .l (some 19) false none (.mkfn (.func 47) [] [.t 5]),
 .h (some 20) none (.call (.c (.fn (.func 34) [] [])) [.t 17, .t 18, .t 19]),
 .l (some 21) false none (.ext (.t 20) 0),
 .l (some 22) false none (.ext (.t 20) 1),
 .h none none (.store 11 (.t 6) (.t 21)),
 .l (some 7) false none (.mv (.t 22))])
 .ret)))
def r17 : List MR := [.cell 6 11 true, .t 7]
theorem is17 : FnIs Tryz.prog 17 23 m17 r17 := ⟨by kernel_rfl, Tryz.f17, _, Tryz.func17, rfl, by decide, rfl, by kernel_rfl, by kernel_rfl⟩

def m18 : MC :=
 (.seq
 (.reg [.h (some 2) none (.box (.t 0)),
 .h (some 4) none (.alloc [.nils, .nils, .nils, .nils, .nils, .nils, .nils, .nils, .nils, .nils, .i .i64 0]),
 .l (some 5) false none (.mv (.c (.s ⟨#[]⟩))),
 .l (some 6) false none (.mv (.c (.i .i64 0)))])
 (.seq
 (.seq
 (.reg [.l (some 15) false none (.mv (.t 1)),
 .h (some 16) none (.call (.c (.fn (.func 32) [] [])) [.t 15, .c (.i .i64 0)]),
 .l (some 7) false none (.mv (.t 16))])
 (.seq
 (.reg [.l (some 17) false none (.mv (.t 7)),
 .l (some 18) false none (.bin .neq (.t 17) (.c (.i .i64 0)))])
 (.cond (.t 18)
 (.seq
 (.reg [.l (some 19) false none (.load 11 true (.t 2)),
 .l (some 20) false none (.mv (.t 7)),
 .h none none (.store 11 (.t 4) (.t 19)),
 .l (some 5) false none (.mv (.c (.s ⟨#[]⟩))),
 .l (some 6) false none (.mv (.t 20))])
 .ret)
 .skip)))
 (.seq
 (.reg [.l (some 22) false none (.load 11 true (.t 2)),
 .l (some 23) false none (.mv (.t 1)),
 .h (some 24) none (.call (.c (.fn (.func 40) [] [])) [.t 22, .t 23]),
 .l (some 21) false none (.mv (.t 24)),
 .l (some 25) false none (.ext (.t 21) 0),
 .l (some 26) false none (.ext (.t 21) 1),
 .l (some 27) false none (.ext (.t 21) 2),
 .h (some 8) none (.alloc [.s ⟨#[]⟩, .nils, .i .i64 0, .s ⟨#[]⟩, .nils, .i .i64 0, .s ⟨#[]⟩, .nils, .i .i64 0, .s ⟨#[]⟩, .nils, .i .i64 0, .s ⟨#[]⟩, .nils, .i .i64 0]),
 .h none none (.store 11 (.t 2) (.t 25)),
 .h none none (.store 15 (.t 8) (.t 26)),
 .l (some 9) false none (.mv (.t 27))])
 (.seq
 (.seq
 (.reg [.l (some 28) false none (.load 15 true (.t 8)),
 .l (some 29) false none (.mv (.c (.i .i64 0)))])
 (.block 0
 (.loop
 (.seq
 (.reg [.l (some 30) false none (.bin .lss (.t 29) (.c (.i .i64 5)))])
 (.seq
 (.cond (.t 30)
 .skip
 (.exit 0))
 (.seq
 (.block 1
 (.seq
 (.reg [.l (some 31) false none (.idxA 5 3 true (.t 28) (.t 29)),
 .h (some 11) none (.alloc [.s ⟨#[]⟩, .nils, .i .i64 0]),
 .h none none (.store 3 (.t 11) (.t 31))])
 (.seq
 (.reg [.l (some 12) false none (.mv (.c (.i .i64 0)))])
 (.seq
 (.seq
 (.reg [.l (some 32) false none (.load 15 true (.t 8)),
 .l (some 33) false none (.mv (.c (.i .i64 0)))])
 (.block 2
 (.loop
 (.seq
 (.reg [.l (some 34) false none (.bin .lss (.t 33) (.c (.i .i64 5)))])
 (.seq
 (.cond (.t 34)
 .skip
 (.exit 2))
 (.seq
 (.block 3
 (.seq
 (.reg [.l (some 35) false none (.idxA 5 3 true (.t 32) (.t 33)),
 .h (some 14) none (.alloc [.s ⟨#[]⟩, .nils, .i .i64 0]),
 .h none none (.store 3 (.t 14) (.t 35))])
 (.seq
 (.reg [.l (some 36) false none (.faddr 2 (.t 11)),
 .l (some 37) false none (.load 1 false (.t 36)),
 .l (some 38) false none (.bin .eql (.t 37) (.c (.i .i64 0))),
 .l (some 39) true none (.mv (.t 38)),
 .l (some 40) false (some (39, true)) (.faddr 2 (.t 14)),
 .l (some 41) false (some (39, true)) (.load 1 false (.t 40)),
 .l (some 42) false (some (39, true)) (.bin .eql (.t 41) (.c (.i .i64 0))),
 .l (some 43) false none (.pick (.t 39) (.t 42) (.c (.ff))),
 .l (some 44) true none (.mv (.t 43)),
 .l (some 45) false (some (44, true)) (.faddr 0 (.t 11)),
 .l (some 46) false (some (44, true)) (.load 1 false (.t 45)),
 .l (some 47) false (some (44, true)) (.faddr 0 (.t 14)),
 .l (some 48) false (some (44, true)) (.load 1 false (.t 47)),
 .l (some 49) false (some (44, true)) (.bin .eql (.t 46) (.t 48)),
 .l (some 50) false none (.pick (.t 44) (.t 49) (.c (.ff)))])
 (.cond (.t 50)
 (.reg [.l (some 51) false none (.mv (.t 12)),
 .l (some 52) false none (.bin .add (.t 51) (.c (.i .i64 1))),
 .l (some 12) false none (.mv (.t 52))])
 .skip))))
 (.reg [.l (some 53) false none (.bin .add (.t 33) (.c (.i .i64 1))),
 .l (some 33) false none (.mv (.t 53))])))))))
 (.seq
 (.reg [.l (some 54) false none (.mv (.t 12)),
 .l (some 55) false none (.bin .geq (.t 54) (.c (.i .i64 3)))])
 (.cond (.t 55)
 (.seq
 (.dreg (.light 0 (.l (some 56) false none (.load 11 true (.t 2))) <|
 (.light 1 (.l (some 57) false none (.faddr 0 (.t 11))) <|
 (.light 2 (.l (some 58) false none (.load 1 false (.t 57))) <|
 (.heavy 3 [1, 2] (.h none none (.store 11 (.t 4) (.t 56)))
 (.light 4 (.l (some 5) false none (.mv (.t 58))) <|
 (.light 5 (.l (some 6) false none (.mv (.c (.i .i64 0)))) <|
 .fin))
 .nil)))))
 .ret)
 .skip))))))
 (.reg [.l (some 59) false none (.bin .add (.t 29) (.c (.i .i64 1))),
 .l (some 29) false none (.mv (.t 59))])))))))
 (.seq
 (.dreg (.light 0 (.l (some 60) false none (.load 11 true (.t 2))) <|
 (.light 1 (.l (some 61) false none (.load 15 true (.t 8))) <|
 (.light 2 (.l (some 62) false none (.mv (.t 9))) <|
 (.heavy 3 [0] (.h (some 63) none (.call (.c (.fn (.func 43) [] [])) [.t 61, .t 62]))
 (.heavy 4 [] (.h none none (.store 11 (.t 4) (.t 60)))
 (.light 5 (.l (some 5) false none (.mv (.c (.s ⟨#[]⟩)))) <|
 (.light 6 (.l (some 6) false none (.mv (.t 63))) <|
 .fin))
 .nil)
 .nil)))))
 .ret)))))
def r18 : List MR := [.cell 4 11 true, .t 5, .t 6]
theorem is18 : FnIs Tryz.prog 18 64 m18 r18 := ⟨by kernel_rfl, Tryz.f18, _, Tryz.func18, rfl, by decide, rfl, by kernel_rfl, by kernel_rfl⟩

def m32 : MC :=
 (.seq
 (.reg [.l (some 4) false none (.mv (.c (.i .i64 0)))])
 (.seq
 (.block 0
 (.seq
 (.reg [.l (some 6) false none (.mv (.t 0)),
 .l (some 7) false none (.bin .eql (.t 6) (.c (.s ⟨#[]⟩))),
 .l (some 8) true none (.mv (.t 7)),
 .l (some 9) false (some (8, false)) (.mv (.t 0)),
 .l (some 10) false (some (8, false)) (.len true (.t 9)),
 .l (some 11) false (some (8, false)) (.bin .gtr (.t 10) (.c (.i .i64 100))),
 .l (some 12) false none (.pick (.t 8) (.c (.tt)) (.t 11)),
 .l (some 5) false none (.mv (.t 12))])
 (.cond (.t 5)
 (.seq
 (.reg [.l (some 4) false none (.mv (.c (.i .i64 7)))])
 .ret)
 (.seq
 (.reg [.l (some 14) false none (.mv (.t 1)),
 .l (some 15) false none (.bin .gtr (.t 14) (.c (.i .i64 65536))),
 .l (some 13) false none (.mv (.t 15))])
 (.cond (.t 13)
 (.seq
 (.reg [.l (some 4) false none (.mv (.c (.i .i64 6)))])
 .ret)
 .skip)))))
 (.seq
 (.reg [.l (some 4) false none (.mv (.c (.i .i64 0)))])
 .ret)))
def r32 : List MR := [.t 4]
theorem is32 : FnIs Tryz.prog 32 16 m32 r32 := ⟨by kernel_rfl, Tryz.f32, _, Tryz.func32, rfl, by decide, rfl, by kernel_rfl, by kernel_rfl⟩

def m33 : MC :=
 (.seq
 (.reg [.l (some 2) false none (.mv (.c (.nils)))])
 (.seq
 (.reg [.l (some 9) false none (.mv (.t 0)),
 .l (some 10) false none (.len true (.t 9)),
 .h (some 11) none (.call (.c (.fn (.func 67) [] [])) [.t 10]),
 .l (some 3) false none (.mv (.t 11))])
 (.seq
 (.reg [.l (some 12) false none (.mv (.t 3)),
 .l (some 13) false none (.bin .mul (.c (.i .i64 3)) (.t 12)),
 .h (some 14) none (.mks 1 1 [.i .u8 0] (.t 13) (.t 13)),
 .l (some 4) false none (.mv (.t 14))])
 (.seq
 (.reg [.l (some 15) false none (.mv (.t 4)),
 .l (some 16) false none (.mv (.t 0)),
 .h (some 17) none (.copy 1 (.t 15) (.t 16))])
 (.seq
 (.reg [.l (some 5) false none (.mv (.c (.nils)))])
 (.seq
 (.seq
 (.reg [.l (some 18) false none (.mv (.c (.i .i64 0)))])
 (.block 0
 (.loop
 (.seq
 (.reg [.l (some 19) false none (.bin .lss (.t 18) (.c (.i .i64 3)))])
 (.seq
 (.cond (.t 19)
 .skip
 (.exit 0))
 (.seq
 (.block 1
 (.seq
 (.reg [.l (some 20) false none (.mv (.t 18)),
 .l (some 6) false none (.mv (.t 20))])
 (.reg [.l (some 21) false none (.mv (.t 5)),
 .l (some 22) false none (.mv (.t 4)),
 .l (some 23) false none (.mv (.t 6)),
 .l (some 24) false none (.mv (.t 3)),
 .l (some 25) false none (.bin .mul (.t 23) (.t 24)),
 .l (some 26) false none (.mv (.t 6)),
 .l (some 27) false none (.bin .add (.t 26) (.c (.i .i64 1))),
 .l (some 28) false none (.mv (.t 3)),
 .l (some 29) false none (.bin .mul (.t 27) (.t 28)),
 .l (some 30) false none (.slc 1 (.t 22) (some (.t 25)) (some (.t 29))),
 .h (some 31) none (.bslice 1 1 [.nils] [(0, 1, .t 30)]),
 .h (some 32) none (.app 1 24 (.t 21) (.t 31)),
 .l (some 5) false none (.mv (.t 32))])))
 (.reg [.l (some 33) false none (.bin .add (.t 18) (.c (.i .i64 1))),
 .l (some 18) false none (.mv (.t 33))])))))))
 (.seq
 (.reg [.l (some 7) false none (.mv (.c (.nils)))])
 (.seq
 (.seq
 (.reg [.l (some 8) false none (.mv (.c (.i .i64 1)))])
 (.block 2
 (.loop
 (.seq
 (.seq
 (.reg [.l (some 34) false none (.mv (.t 8)),
 .l (some 35) false none (.bin .leq (.t 34) (.c (.i .i64 5)))])
 (.cond (.t 35)
 .skip
 (.exit 2)))
 (.seq
 (.block 3
 (.reg [.l (some 38) false none (.mv (.t 7)),
 .l (some 39) false none (.mv (.t 8)),
 .h (some 40) none (.bslice 1 3 [.i .u8 0] [(0, 1, .c (.i .u8 1)), (1, 1, .c (.i .u8 2)), (2, 1, .c (.i .u8 3))]),
 .l (some 41) false none (.mv (.t 5)),
 .l (some 42) false none (.mv (.t 8)),
 .l (some 43) false none (.conv .u8 (.t 42)),
 .h (some 44) none (.call (.c (.fn (.func 68) [] [])) [.t 40, .t 41, .t 43]),
 .l (some 45) false none (.b2s (.t 44)),
 .l (some 46) false none (.build [.i .i64 0, .s ⟨#[]⟩] [(0, 1, .t 39), (1, 1, .t 45)]),
 .h (some 47) none (.bslice 2 1 [.i .i64 0, .s ⟨#[]⟩] [(0, 2, .t 46)]),
 .h (some 48) none (.app 2 24 (.t 38) (.t 47)),
 .l (some 7) false none (.mv (.t 48))]))
 (.reg [.l (some 36) false none (.mv (.t 8)),
 .l (some 37) false none (.bin .add (.t 36) (.c (.i .i64 1))),
 .l (some 8) false none (.mv (.t 37))]))))))
 (.seq
 (.reg [.l (some 49) false none (.mv (.t 7)),
 .l (some 2) false none (.mv (.t 49))])
 .ret)))))))))
def r33 : List MR := [.t 2]
theorem is33 : FnIs Tryz.prog 33 50 m33 r33 := ⟨by kernel_rfl, Tryz.f33, _, Tryz.func33, rfl, by decide, rfl, by kernel_rfl, by kernel_rfl⟩

def m34 : MC :=
 (.seq
 (.reg [.h (some 3) none (.box (.t 0)),
 .h (some 4) none (.box (.t 1)),
 .h (some 5) none (.box (.t 2)),
 .h (some 6) none (.alloc [.nils, .nils, .nils, .nils, .nils, .nils, .nils, .nils, .nils, .nils, .i .i64 0]),
 .l (some 7) false none (.mv (.c (.i .i64 0)))])
 (.seq
 (.reg [.l (some 11) false none (.load 11 true (.t 3)),
 .l (some 12) false none (.mkfn (.func 69) [] [.t 4, .t 5]),
 .h (some 13) none (.call (.c (.fn (.func 49) [] [])) [.t 11, .t 12]),
 .l (some 10) false none (.mv (.t 13)),
 .l (some 14) false none (.ext (.t 10) 0),
 .l (some 15) false none (.ext (.t 10) 1),
 .l (some 16) false none (.ext (.t 10) 2),
 .h (some 8) none (.alloc [.s ⟨#[]⟩, .nils, .i .i64 0, .s ⟨#[]⟩, .nils, .i .i64 0, .s ⟨#[]⟩, .nils, .i .i64 0, .s ⟨#[]⟩, .nils, .i .i64 0, .s ⟨#[]⟩, .nils, .i .i64 0]),
 .h none none (.store 11 (.t 3) (.t 14)),
 .h none none (.store 15 (.t 8) (.t 15)),
 .l (some 9) false none (.mv (.t 16))])
 (.seq
 (.dreg (.light 0 (.l (some 17) false none (.load 11 true (.t 3))) <|
 (.light 1 (.l (some 18) false none (.load 15 true (.t 8))) <|
 (.heavy 2 [0] (.h (some 19) none (.call (.c (.fn (.func 52) [] [])) [.t 18, .c (.i .i64 0)]))
 (.heavy 3 [] (.h none none (.store 11 (.t 6) (.t 17)))
 (.light 4 (.l (some 7) false none (.mv (.t 19))) <|
 .fin)
 .nil)
 .nil))))
 .ret)))
def r34 : List MR := [.cell 6 11 true, .t 7]
theorem is34 : FnIs Tryz.prog 34 20 m34 r34 := ⟨by kernel_rfl, Tryz.f34, _, Tryz.func34, rfl, by decide, rfl, by kernel_rfl, by kernel_rfl⟩

def m35 : MC :=
 (.seq
 (.reg [.l (some 5) false none (.mv (.c (.s ⟨#[]⟩)))])
 (.seq
 (.reg [.l (some 7) false none (.load 1 false (.t 1)),
 .l (some 8) false none (.mv (.t 0)),
 .l (some 9) false none (.iaddr 2 (.t 7) (.t 8)),
 .l (some 10) false none (.faddr 1 (.t 9)),
 .l (some 11) false none (.load 1 false (.t 10)),
 .l (some 6) false none (.mv (.t 11))])
 (.seq
 (.dreg (.light 0 (.l (some 12) false none (.load 1 false (.t 2))) <|
 (.light 1 (.l (some 13) false none (.load 1 false (.t 3))) <|
 (.light 2 (.l (some 14) false none (.len true (.t 13))) <|
 (.light 4 (.l (some 16) false none (.mv (.t 0))) <|
 (.light 5 (.l (some 17) false none (.bin .add (.t 16) (.c (.i .i64 1)))) <|
 (.light 7 (.l (some 19) false none (.load 1 false (.t 3))) <|
 (.light 11 (.l (some 23) false none (.mv (.t 6))) <|
 (.light 15 (.l (some 27) false none (.mv (.t 6))) <|
 (.heavy 3 [0, 4, 5, 7, 11, 15] (.h (some 15) none (.call (.c (.fn (.func 37) [] [])) [.t 14]))
 (.heavy 6 [0, 7, 11, 15] (.h (some 18) none (.call (.c (.fn (.func 37) [] [])) [.t 17]))
 (.heavy 8 [0, 1, 2, 4, 5, 11, 15] (.h (some 20) none (.bslice 1 1 [.s ⟨#[]⟩] [(0, 1, .t 19)]))
 (.heavy 9 [0, 11, 15] (.h (some 21) none (.call (.c (.fn (.func 39) [] [])) [.t 20]))
 (.heavy 10 [0, 11, 15] (.h (some 22) none (.call (.c (.fn (.func 38) [] [])) [.t 21]))
 (.heavy 12 [0, 1, 2, 4, 5, 7, 15] (.h (some 24) none (.bslice 1 1 [.s ⟨#[]⟩] [(0, 1, .t 23)]))
 (.heavy 13 [0, 15] (.h (some 25) none (.call (.c (.fn (.func 39) [] [])) [.t 24]))
 (.heavy 14 [0, 15] (.h (some 26) none (.call (.c (.fn (.func 38) [] [])) [.t 25]))
 (.heavy 16 [] (.h (some 28) none (.bslice 1 7 [.s ⟨#[]⟩] [(0, 1, .c (.s ⟨#[104, 105, 98, 115]⟩)), (1, 1, .t 12), (2, 1, .t 15), (3, 1, .t 18), (4, 1, .t 22), (5, 1, .t 26), (6, 1, .t 27)]))
 (.heavy 17 [] (.h (some 29) none (.call (.c (.fn (.func 36) [] [])) [.t 28]))
 (.light 18 (.l (some 5) false none (.mv (.t 29))) <|
 .fin)
 .nil)
 .nil)
 .nil)
 .nil)
 .nil)
 (.heavy 12 [0, 1, 2, 4, 5, 7, 15] (.h (some 24) none (.bslice 1 1 [.s ⟨#[]⟩] [(0, 1, .t 23)]))
 (.heavy 10 [0, 11, 15] (.h (some 22) none (.call (.c (.fn (.func 38) [] [])) [.t 21]))
 (.heavy 13 [0, 15] (.h (some 25) none (.call (.c (.fn (.func 39) [] [])) [.t 24]))
 (.heavy 14 [0, 15] (.h (some 26) none (.call (.c (.fn (.func 38) [] [])) [.t 25]))
 (.heavy 16 [] (.h (some 28) none (.bslice 1 7 [.s ⟨#[]⟩] [(0, 1, .c (.s ⟨#[104, 105, 98, 115]⟩)), (1, 1, .t 12), (2, 1, .t 15), (3, 1, .t 18), (4, 1, .t 22), (5, 1, .t 26), (6, 1, .t 27)]))
 (.heavy 17 [] (.h (some 29) none (.call (.c (.fn (.func 36) [] [])) [.t 28]))
 (.light 18 (.l (some 5) false none (.mv (.t 29))) <|
 .fin)
 .nil)
 .nil)
 .nil)
 .nil)
 .nil)
 .nil))
 (.heavy 12 [0, 1, 2, 4, 5, 7, 15] (.h (some 24) none (.bslice 1 1 [.s ⟨#[]⟩] [(0, 1, .t 23)]))
 (.heavy 9 [0, 11, 15] (.h (some 21) none (.call (.c (.fn (.func 39) [] [])) [.t 20]))
 (.heavy 10 [0, 11, 15] (.h (some 22) none (.call (.c (.fn (.func 38) [] [])) [.t 21]))
 (.heavy 13 [0, 15] (.h (some 25) none (.call (.c (.fn (.func 39) [] [])) [.t 24]))
 (.heavy 14 [0, 15] (.h (some 26) none (.call (.c (.fn (.func 38) [] [])) [.t 25]))
 (.heavy 16 [] (.h (some 28) none (.bslice 1 7 [.s ⟨#[]⟩] [(0, 1, .c (.s ⟨#[104, 105, 98, 115]⟩)), (1, 1, .t 12), (2, 1, .t 15), (3, 1, .t 18), (4, 1, .t 22), (5, 1, .t 26), (6, 1, .t 27)]))
 (.heavy 17 [] (.h (some 29) none (.call (.c (.fn (.func 36) [] [])) [.t 28]))
 (.light 18 (.l (some 5) false none (.mv (.t 29))) <|
 .fin)
 .nil)
 .nil)
 .nil)
 .nil)
 .nil)
 .nil)
 .nil))
 (.heavy 12 [0, 1, 2, 4, 5, 7, 15] (.h (some 24) none (.bslice 1 1 [.s ⟨#[]⟩] [(0, 1, .t 23)]))
 (.heavy 8 [0, 1, 2, 4, 5, 11, 15] (.h (some 20) none (.bslice 1 1 [.s ⟨#[]⟩] [(0, 1, .t 19)]))
 (.heavy 9 [0, 11, 15] (.h (some 21) none (.call (.c (.fn (.func 39) [] [])) [.t 20]))
 (.heavy 10 [0, 11, 15] (.h (some 22) none (.call (.c (.fn (.func 38) [] [])) [.t 21]))
 (.heavy 13 [0, 15] (.h (some 25) none (.call (.c (.fn (.func 39) [] [])) [.t 24]))
 (.heavy 14 [0, 15] (.h (some 26) none (.call (.c (.fn (.func 38) [] [])) [.t 25]))
 (.heavy 16 [] (.h (some 28) none (.bslice 1 7 [.s ⟨#[]⟩] [(0, 1, .c (.s ⟨#[104, 105, 98, 115]⟩)), (1, 1, .t 12), (2, 1, .t 15), (3, 1, .t 18), (4, 1, .t 22), (5, 1, .t 26), (6, 1, .t 27)]))
 (.heavy 17 [] (.h (some 29) none (.call (.c (.fn (.func 36) [] [])) [.t 28]))
 (.light 18 (.l (some 5) false none (.mv (.t 29))) <|
 .fin)
 .nil)
 .nil)
 .nil)
 .nil)
 .nil)
 .nil)
 .nil)
 .nil))
 (.heavy 8 [0, 1, 2, 4, 5, 11, 15] (.h (some 20) none (.bslice 1 1 [.s ⟨#[]⟩] [(0, 1, .t 19)]))
 (.heavy 6 [0, 7, 11, 15] (.h (some 18) none (.call (.c (.fn (.func 37) [] [])) [.t 17]))
 (.heavy 9 [0, 11, 15] (.h (some 21) none (.call (.c (.fn (.func 39) [] [])) [.t 20]))
 (.heavy 10 [0, 11, 15] (.h (some 22) none (.call (.c (.fn (.func 38) [] [])) [.t 21]))
 (.heavy 12 [0, 1, 2, 4, 5, 7, 15] (.h (some 24) none (.bslice 1 1 [.s ⟨#[]⟩] [(0, 1, .t 23)]))
 (.heavy 13 [0, 15] (.h (some 25) none (.call (.c (.fn (.func 39) [] [])) [.t 24]))
 (.heavy 14 [0, 15] (.h (some 26) none (.call (.c (.fn (.func 38) [] [])) [.t 25]))
 (.heavy 16 [] (.h (some 28) none (.bslice 1 7 [.s ⟨#[]⟩] [(0, 1, .c (.s ⟨#[104, 105, 98, 115]⟩)), (1, 1, .t 12), (2, 1, .t 15), (3, 1, .t 18), (4, 1, .t 22), (5, 1, .t 26), (6, 1, .t 27)]))
 (.heavy 17 [] (.h (some 29) none (.call (.c (.fn (.func 36) [] [])) [.t 28]))
 (.light 18 (.l (some 5) false none (.mv (.t 29))) <|
 .fin)
 .nil)
 .nil)
 .nil)
 .nil)
 .nil)
 (.heavy 12 [0, 1, 2, 4, 5, 7, 15] (.h (some 24) none (.bslice 1 1 [.s ⟨#[]⟩] [(0, 1, .t 23)]))
 (.heavy 10 [0, 11, 15] (.h (some 22) none (.call (.c (.fn (.func 38) [] [])) [.t 21]))
 (.heavy 13 [0, 15] (.h (some 25) none (.call (.c (.fn (.func 39) [] [])) [.t 24]))
 (.heavy 14 [0, 15] (.h (some 26) none (.call (.c (.fn (.func 38) [] [])) [.t 25]))
 (.heavy 16 [] (.h (some 28) none (.bslice 1 7 [.s ⟨#[]⟩] [(0, 1, .c (.s ⟨#[104, 105, 98, 115]⟩)), (1, 1, .t 12), (2, 1, .t 15), (3, 1, .t 18), (4, 1, .t 22), (5, 1, .t 26), (6, 1, .t 27)]))
 (.heavy 17 [] (.h (some 29) none (.call (.c (.fn (.func 36) [] [])) [.t 28]))
 (.light 18 (.l (some 5) false none (.mv (.t 29))) <|
 .fin)
 .nil)
 .nil)
 .nil)
 .nil)
 .nil)
 .nil))
 (.heavy 12 [0, 1, 2, 4, 5, 7, 15] (.h (some 24) none (.bslice 1 1 [.s ⟨#[]⟩] [(0, 1, .t 23)]))
 (.heavy 9 [0, 11, 15] (.h (some 21) none (.call (.c (.fn (.func 39) [] [])) [.t 20]))
 (.heavy 10 [0, 11, 15] (.h (some 22) none (.call (.c (.fn (.func 38) [] [])) [.t 21]))
 (.heavy 13 [0, 15] (.h (some 25) none (.call (.c (.fn (.func 39) [] [])) [.t 24]))
 (.heavy 14 [0, 15] (.h (some 26) none (.call (.c (.fn (.func 38) [] [])) [.t 25]))
 (.heavy 16 [] (.h (some 28) none (.bslice 1 7 [.s ⟨#[]⟩] [(0, 1, .c (.s ⟨#[104, 105, 98, 115]⟩)), (1, 1, .t 12), (2, 1, .t 15), (3, 1, .t 18), (4, 1, .t 22), (5, 1, .t 26), (6, 1, .t 27)]))
 (.heavy 17 [] (.h (some 29) none (.call (.c (.fn (.func 36) [] [])) [.t 28]))
 (.light 18 (.l (some 5) false none (.mv (.t 29))) <|
 .fin)
 .nil)
 .nil)
 .nil)
 .nil)
 .nil)
 .nil)
 .nil))
 (.heavy 12 [0, 1, 2, 4, 5, 7, 15] (.h (some 24) none (.bslice 1 1 [.s ⟨#[]⟩] [(0, 1, .t 23)]))
 (.heavy 6 [0, 7, 11, 15] (.h (some 18) none (.call (.c (.fn (.func 37) [] [])) [.t 17]))
 (.heavy 9 [0, 11, 15] (.h (some 21) none (.call (.c (.fn (.func 39) [] [])) [.t 20]))
 (.heavy 10 [0, 11, 15] (.h (some 22) none (.call (.c (.fn (.func 38) [] [])) [.t 21]))
 (.heavy 13 [0, 15] (.h (some 25) none (.call (.c (.fn (.func 39) [] [])) [.t 24]))
 (.heavy 14 [0, 15] (.h (some 26) none (.call (.c (.fn (.func 38) [] [])) [.t 25]))
 (.heavy 16 [] (.h (some 28) none (.bslice 1 7 [.s ⟨#[]⟩] [(0, 1, .c (.s ⟨#[104, 105, 98, 115]⟩)), (1, 1, .t 12), (2, 1, .t 15), (3, 1, .t 18), (4, 1, .t 22), (5, 1, .t 26), (6, 1, .t 27)]))
 (.heavy 17 [] (.h (some 29) none (.call (.c (.fn (.func 36) [] [])) [.t 28]))
 (.light 18 (.l (some 5) false none (.mv (.t 29))) <|
 .fin)
 .nil)
 .nil)
 .nil)
 .nil)
 .nil)
 .nil)
 .nil)
 .nil))
 (.heavy 12 [0, 1, 2, 4, 5, 7, 15] (.h (some 24) none (.bslice 1 1 [.s ⟨#[]⟩] [(0, 1, .t 23)]))
 (.heavy 6 [0, 7, 11, 15] (.h (some 18) none (.call (.c (.fn (.func 37) [] [])) [.t 17]))
 (.heavy 8 [0, 1, 2, 4, 5, 11, 15] (.h (some 20) none (.bslice 1 1 [.s ⟨#[]⟩] [(0, 1, .t 19)]))
 (.heavy 9 [0, 11, 15] (.h (some 21) none (.call (.c (.fn (.func 39) [] [])) [.t 20]))
 (.heavy 10 [0, 11, 15] (.h (some 22) none (.call (.c (.fn (.func 38) [] [])) [.t 21]))
 (.heavy 13 [0, 15] (.h (some 25) none (.call (.c (.fn (.func 39) [] [])) [.t 24]))
 (.heavy 14 [0, 15] (.h (some 26) none (.call (.c (.fn (.func 38) [] [])) [.t 25]))
 (.heavy 16 [] (.h (some 28) none (.bslice 1 7 [.s ⟨#[]⟩] [(0, 1, .c (.s ⟨#[104, 105, 98, 115]⟩)), (1, 1, .t 12), (2, 1, .t 15), (3, 1, .t 18), (4, 1, .t 22), (5, 1, .t 26), (6, 1, .t 27)]))
 (.heavy 17 [] (.h (some 29) none (.call (.c (.fn (.func 36) [] [])) [.t 28]))
 (.light 18 (.l (some 5) false none (.mv (.t 29))) <|
 .fin)
 .nil)
 .nil)
 .nil)
 .nil)
 .nil)
 .nil)
 .nil)
 (.heavy 8 [0, 1, 2, 4, 5, 11, 15] (.h (some 20) none (.bslice 1 1 [.s ⟨#[]⟩] [(0, 1, .t 19)]))
 (.heavy 6 [0, 7, 11, 15] (.h (some 18) none (.call (.c (.fn (.func 37) [] [])) [.t 17]))
 (.heavy 9 [0, 11, 15] (.h (some 21) none (.call (.c (.fn (.func 39) [] [])) [.t 20]))
 (.heavy 10 [0, 11, 15] (.h (some 22) none (.call (.c (.fn (.func 38) [] [])) [.t 21]))
 (.heavy 13 [0, 15] (.h (some 25) none (.call (.c (.fn (.func 39) [] [])) [.t 24]))
 (.heavy 14 [0, 15] (.h (some 26) none (.call (.c (.fn (.func 38) [] [])) [.t 25]))
 (.heavy 16 [] (.h (some 28) none (.bslice 1 7 [.s ⟨#[]⟩] [(0, 1, .c (.s ⟨#[104, 105, 98, 115]⟩)), (1, 1, .t 12), (2, 1, .t 15), (3, 1, .t 18), (4, 1, .t 22), (5, 1, .t 26), (6, 1, .t 27)]))
 (.heavy 17 [] (.h (some 29) none (.call (.c (.fn (.func 36) [] [])) [.t 28]))
 (.light 18 (.l (some 5) false none (.mv (.t 29))) <|
 .fin)
 .nil)
 .nil)
 .nil)
 .nil)
 .nil)
 .nil)
 .nil)
 .nil))
 .nil)))
 (.heavy 8 [0, 1, 2, 4, 5, 11, 15] (.h (some 20) none (.bslice 1 1 [.s ⟨#[]⟩] [(0, 1, .t 19)]))
 (.heavy 3 [0, 4, 5, 7, 11, 15] (.h (some 15) none (.call (.c (.fn (.func 37) [] [])) [.t 14]))
 (.heavy 6 [0, 7, 11, 15] (.h (some 18) none (.call (.c (.fn (.func 37) [] [])) [.t 17]))
 (.heavy 9 [0, 11, 15] (.h (some 21) none (.call (.c (.fn (.func 39) [] [])) [.t 20]))
 (.heavy 10 [0, 11, 15] (.h (some 22) none (.call (.c (.fn (.func 38) [] [])) [.t 21]))
 (.heavy 12 [0, 1, 2, 4, 5, 7, 15] (.h (some 24) none (.bslice 1 1 [.s ⟨#[]⟩] [(0, 1, .t 23)]))
 (.heavy 13 [0, 15] (.h (some 25) none (.call (.c (.fn (.func 39) [] [])) [.t 24]))
 (.heavy 14 [0, 15] (.h (some 26) none (.call (.c (.fn (.func 38) [] [])) [.t 25]))
 (.heavy 16 [] (.h (some 28) none (.bslice 1 7 [.s ⟨#[]⟩] [(0, 1, .c (.s ⟨#[104, 105, 98, 115]⟩)), (1, 1, .t 12), (2, 1, .t 15), (3, 1, .t 18), (4, 1, .t 22), (5, 1, .t 26), (6, 1, .t 27)]))
 (.heavy 17 [] (.h (some 29) none (.call (.c (.fn (.func 36) [] [])) [.t 28]))
 (.light 18 (.l (some 5) false none (.mv (.t 29))) <|
 .fin)
 .nil)
 .nil)
 .nil)
 .nil)
 .nil)
 (.heavy 12 [0, 1, 2, 4, 5, 7, 15] (.h (some 24) none (.bslice 1 1 [.s ⟨#[]⟩] [(0, 1, .t 23)]))
 (.heavy 10 [0, 11, 15] (.h (some 22) none (.call (.c (.fn (.func 38) [] [])) [.t 21]))
 (.heavy 13 [0, 15] (.h (some 25) none (.call (.c (.fn (.func 39) [] [])) [.t 24]))
 (.heavy 14 [0, 15] (.h (some 26) none (.call (.c (.fn (.func 38) [] [])) [.t 25]))
 (.heavy 16 [] (.h (some 28) none (.bslice 1 7 [.s ⟨#[]⟩] [(0, 1, .c (.s ⟨#[104, 105, 98, 115]⟩)), (1, 1, .t 12), (2, 1, .t 15), (3, 1, .t 18), (4, 1, .t 22), (5, 1, .t 26), (6, 1, .t 27)]))
 (.heavy 17 [] (.h (some 29) none (.call (.c (.fn (.func 36) [] [])) [.t 28]))
 (.light 18 (.l (some 5) false none (.mv (.t 29))) <|
 .fin)
 .nil)
 .nil)
 .nil)
 .nil)
 .nil)
 .nil))
 (.heavy 12 [0, 1, 2, 4, 5, 7, 15] (.h (some 24) none (.bslice 1 1 [.s ⟨#[]⟩] [(0, 1, .t 23)]))
 (.heavy 9 [0, 11, 15] (.h (some 21) none (.call (.c (.fn (.func 39) [] [])) [.t 20]))
 (.heavy 10 [0, 11, 15] (.h (some 22) none (.call (.c (.fn (.func 38) [] [])) [.t 21]))
 (.heavy 13 [0, 15] (.h (some 25) none (.call (.c (.fn (.func 39) [] [])) [.t 24]))
 (.heavy 14 [0, 15] (.h (some 26) none (.call (.c (.fn (.func 38) [] [])) [.t 25]))
 (.heavy 16 [] (.h (some 28) none (.bslice 1 7 [.s ⟨#[]⟩] [(0, 1, .c (.s ⟨#[104, 105, 98, 115]⟩)), (1, 1, .t 12), (2, 1, .t 15), (3, 1, .t 18), (4, 1, .t 22), (5, 1, .t 26), (6, 1, .t 27)]))
 (.heavy 17 [] (.h (some 29) none (.call (.c (.fn (.func 36) [] [])) [.t 28]))
 (.light 18 (.l (some 5) false none (.mv (.t 29))) <|
 .fin)
 .nil)
 .nil)
 .nil)
 .nil)
 .nil)
 .nil)
 .nil))
 (.heavy 12 [0, 1, 2, 4, 5, 7, 15] (.h (some 24) none (.bslice 1 1 [.s ⟨#[]⟩] [(0, 1, .t 23)]))
 (.heavy 6 [0, 7, 11, 15] (.h (some 18) none (.call (.c (.fn (.func 37) [] [])) [.t 17]))
 (.heavy 9 [0, 11, 15] (.h (some 21) none (.call (.c (.fn (.func 39) [] [])) [.t 20]))
 (.heavy 10 [0, 11, 15] (.h (some 22) none (.call (.c (.fn (.func 38) [] [])) [.t 21]))
 (.heavy 13 [0, 15] (.h (some 25) none (.call (.c (.fn (.func 39) [] [])) [.t 24]))
 (.heavy 14 [0, 15] (.h (some 26) none (.call (.c (.fn (.func 38) [] [])) [.t 25]))
 (.heavy 16 [] (.h (some 28) none (.bslice 1 7 [.s ⟨#[]⟩] [(0, 1, .c (.s ⟨#[104, 105, 98, 115]⟩)), (1, 1, .t 12), (2, 1, .t 15), (3, 1, .t 18), (4, 1, .t 22), (5, 1, .t 26), (6, 1, .t 27)]))
 (.heavy 17 [] (.h (some 29) none (.call (.c (.fn (.func 36) [] [])) [.t 28]))
 (.light 18 (.l (some 5) false none (.mv (.t 29))) <|
 .fin)
 .nil)
 .nil)
 .nil)
 .nil)
 .nil)
 .nil)
 .nil)
 .nil))
 (.heavy 12 [0, 1, 2, 4, 5, 7, 15] (.h (some 24) none (.bslice 1 1 [.s ⟨#[]⟩] [(0, 1, .t 23)]))
 (.heavy 3 [0, 4, 5, 7, 11, 15] (.h (some 15) none (.call (.c (.fn (.func 37) [] [])) [.t 14]))
 (.heavy 6 [0, 7, 11, 15] (.h (some 18) none (.call (.c (.fn (.func 37) [] [])) [.t 17]))
 (.heavy 9 [0, 11, 15] (.h (some 21) none (.call (.c (.fn (.func 39) [] [])) [.t 20]))
 (.heavy 10 [0, 11, 15] (.h (some 22) none (.call (.c (.fn (.func 38) [] [])) [.t 21]))
 (.heavy 13 [0, 15] (.h (some 25) none (.call (.c (.fn (.func 39) [] [])) [.t 24]))
 (.heavy 14 [0, 15] (.h (some 26) none (.call (.c (.fn (.func 38) [] [])) [.t 25]))
 (.heavy 16 [] (.h (some 28) none (.bslice 1 7 [.s ⟨#[]⟩] [(0, 1, .c (.s ⟨#[104, 105, 98, 115]⟩)), (1, 1, .t 12), (2, 1, .t 15), (3, 1, .t 18), (4, 1, .t 22), (5, 1, .t 26), (6, 1, .t 27)]))
 (.heavy 17 [] (.h (some 29) none (.call (.c (.fn (.func 36) [] [])) [.t 28]))
 (.light 18 (.l (some 5) false none (.mv (.t 29))) <|
 .fin)
 .nil)
 .nil)
 .nil)
 .nil)
 .nil)
 .nil)
 .nil)
 .nil)
 .nil))
 (.heavy 12 [0, 1, 2, 4, 5, 7, 15] (.h (some 24) none (.bslice 1 1 [.s ⟨#[]⟩] [(0, 1, .t 23)]))
 (.heavy 3 [0, 4, 5, 7, 11, 15] (.h (some 15) none (.call (.c (.fn (.func 37) [] [])) [.t 14]))
 (.heavy 6 [0, 7, 11, 15] (.h (some 18) none (.call (.c (.fn (.func 37) [] [])) [.t 17]))
 (.heavy 8 [0, 1, 2, 4, 5, 11, 15] (.h (some 20) none (.bslice 1 1 [.s ⟨#[]⟩] [(0, 1, .t 19)]))
 (.heavy 9 [0, 11, 15] (.h (some 21) none (.call (.c (.fn (.func 39) [] [])) [.t 20]))
 (.heavy 10 [0, 11, 15] (.h (some 22) none (.call (.c (.fn (.func 38) [] [])) [.t 21]))
 (.heavy 13 [0, 15] (.h (some 25) none (.call (.c (.fn (.func 39) [] [])) [.t 24]))
 (.heavy 14 [0, 15] (.h (some 26) none (.call (.c (.fn (.func 38) [] [])) [.t 25]))
 (.heavy 16 [] (.h (some 28) none (.bslice 1 7 [.s ⟨#[]⟩] [(0, 1, .c (.s ⟨#[104, 105, 98, 115]⟩)), (1, 1, .t 12), (2, 1, .t 15), (3, 1, .t 18), (4, 1, .t 22), (5, 1, .t 26), (6, 1, .t 27)]))
 (.heavy 17 [] (.h (some 29) none (.call (.c (.fn (.func 36) [] [])) [.t 28]))
 (.light 18 (.l (some 5) false none (.mv (.t 29))) <|
 .fin)
 .nil)
 .nil)
 .nil)
 .nil)
 .nil)
 .nil)
 .nil)
 (.heavy 8 [0, 1, 2, 4, 5, 11, 15] (.h (some 20) none (.bslice 1 1 [.s ⟨#[]⟩] [(0, 1, .t 19)]))
 (.heavy 6 [0, 7, 11, 15] (.h (some 18) none (.call (.c (.fn (.func 37) [] [])) [.t 17]))
 (.heavy 9 [0, 11, 15] (.h (some 21) none (.call (.c (.fn (.func 39) [] [])) [.t 20]))
 (.heavy 10 [0, 11, 15] (.h (some 22) none (.call (.c (.fn (.func 38) [] [])) [.t 21]))
 (.heavy 13 [0, 15] (.h (some 25) none (.call (.c (.fn (.func 39) [] [])) [.t 24]))
 (.heavy 14 [0, 15] (.h (some 26) none (.call (.c (.fn (.func 38) [] [])) [.t 25]))
 (.heavy 16 [] (.h (some 28) none (.bslice 1 7 [.s ⟨#[]⟩] [(0, 1, .c (.s ⟨#[104, 105, 98, 115]⟩)), (1, 1, .t 12), (2, 1, .t 15), (3, 1, .t 18), (4, 1, .t 22), (5, 1, .t 26), (6, 1, .t 27)]))
 (.heavy 17 [] (.h (some 29) none (.call (.c (.fn (.func 36) [] [])) [.t 28]))
 (.light 18 (.l (some 5) false none (.mv (.t 29))) <|
 .fin)
 .nil)
 .nil)
 .nil)
 .nil)
 .nil)
 .nil)
 .nil)
 .nil))
 (.heavy 8 [0, 1, 2, 4, 5, 11, 15] (.h (some 20) none (.bslice 1 1 [.s ⟨#[]⟩] [(0, 1, .t 19)]))
 (.heavy 3 [0, 4, 5, 7, 11, 15] (.h (some 15) none (.call (.c (.fn (.func 37) [] [])) [.t 14]))
 (.heavy 6 [0, 7, 11, 15] (.h (some 18) none (.call (.c (.fn (.func 37) [] [])) [.t 17]))
 (.heavy 9 [0, 11, 15] (.h (some 21) none (.call (.c (.fn (.func 39) [] [])) [.t 20]))
 (.heavy 10 [0, 11, 15] (.h (some 22) none (.call (.c (.fn (.func 38) [] [])) [.t 21]))
 (.heavy 13 [0, 15] (.h (some 25) none (.call (.c (.fn (.func 39) [] [])) [.t 24]))
 (.heavy 14 [0, 15] (.h (some 26) none (.call (.c (.fn (.func 38) [] [])) [.t 25]))
 (.heavy 16 [] (.h (some 28) none (.bslice 1 7 [.s ⟨#[]⟩] [(0, 1, .c (.s ⟨#[104, 105, 98, 115]⟩)), (1, 1, .t 12), (2, 1, .t 15), (3, 1, .t 18), (4, 1, .t 22), (5, 1, .t 26), (6, 1, .t 27)]))
 (.heavy 17 [] (.h (some 29) none (.call (.c (.fn (.func 36) [] [])) [.t 28]))
 (.light 18 (.l (some 5) false none (.mv (.t 29))) <|
 .fin)
 .nil)
 .nil)
 .nil)
 .nil)
 .nil)
 .nil)
 .nil)
 .nil)
 .nil))
 .nil))))))))))))
 .ret)))
def r35 : List MR := [.t 5]
theorem is35 : FnIs Tryz.prog 35 30 m35 r35 := ⟨by kernel_rfl, Tryz.f35, _, Tryz.func35, rfl, by decide, rfl, by kernel_rfl, by kernel_rfl⟩

def m37 : MC :=
 (.seq
 (.reg [.l (some 2) false none (.mv (.c (.s ⟨#[]⟩)))])
 (.seq
 (.reg [.l (some 3) false none (.mv (.t 0)),
 .h (some 4) none (.call (.c (.fn (.func 75) [] [])) [.t 3, .c (.i .i64 10)]),
 .l (some 2) false none (.mv (.t 4))])
 .ret))
def r37 : List MR := [.t 2]
theorem is37 : FnIs Tryz.prog 37 5 m37 r37 := ⟨by kernel_rfl, Tryz.f37, _, Tryz.func37, rfl, by decide, rfl, by kernel_rfl, by kernel_rfl⟩

def m38 : MC :=
 (.seq
 (.reg [.h (some 1) none (.box (.t 0)),
 .l (some 2) false none (.mv (.c (.s ⟨#[]⟩)))])
 (.seq
 (.reg [.l (some 3) false none (.slcA 32 1 (.t 1) none none),
 .l (some 4) false none (.b2s (.t 3)),
 .l (some 2) false none (.mv (.t 4))])
 .ret))
def r38 : List MR := [.t 2]
theorem is38 : FnIs Tryz.prog 38 5 m38 r38 := ⟨by kernel_rfl, Tryz.f38, _, Tryz.func38, rfl, by decide, rfl, by kernel_rfl, by kernel_rfl⟩

def m39 : MC :=
 (.seq
 (.reg [.h (some 2) none (.alloc [.i .u8 0, .i .u8 0, .i .u8 0, .i .u8 0, .i .u8 0, .i .u8 0, .i .u8 0, .i .u8 0, .i .u8 0, .i .u8 0, .i .u8 0, .i .u8 0, .i .u8 0, .i .u8 0, .i .u8 0, .i .u8 0, .i .u8 0, .i .u8 0, .i .u8 0, .i .u8 0, .i .u8 0, .i .u8 0, .i .u8 0, .i .u8 0, .i .u8 0, .i .u8 0, .i .u8 0, .i .u8 0, .i .u8 0, .i .u8 0, .i .u8 0, .i .u8 0])])
 (.seq
 (.reg [.h (some 4) none (.call (.c (.fn (.func 76) [] [])) []),
 .h (some 3) none (.alloc [.i .u32 0, .i .u32 0, .i .u32 0, .i .u32 0, .i .u32 0, .i .u32 0, .i .u32 0, .i .u32 0]),
 .h none none (.store 8 (.t 3) (.t 4))])
 (.seq
 (.reg [.l (some 5) false none (.iaddrA 8 1 (.t 3) (.c (.i .i64 0))),
 .l (some 6) false none (.load 1 false (.t 5)),
 .l (some 7) false none (.bin .xor (.t 6) (.c (.i .u32 16842784))),
 .l (some 8) false none (.iaddrA 8 1 (.t 3) (.c (.i .i64 0))),
 .h none none (.store 1 (.t 8) (.t 7))])
 (.seq
 (.dreg (.light 0 (.l (some 9) false none (.load 8 true (.t 3))) <|
 (.light 1 (.l (some 10) false none (.mv (.t 0))) <|
 (.heavy 2 [0] (.h (some 11) none (.call (.c (.fn (.func 78) [] [])) [.t 10, .c (.s ⟨#[]⟩)]))
 (.heavy 3 [] (.h (some 12) none (.call (.c (.fn (.func 77) [] [])) [.t 9, .t 11]))
 (.heavy 4 [] (.h none none (.store 32 (.t 2) (.t 12)))
 .fin
 .nil)
 .nil)
 .nil))))
 .ret))))
def r39 : List MR := [.cell 2 32 true]
theorem is39 : FnIs Tryz.prog 39 13 m39 r39 := ⟨by kernel_rfl, Tryz.f39, _, Tryz.func39, rfl, by decide, rfl, by kernel_rfl, by kernel_rfl⟩

def m40 : MC :=
 (.seq
 (.reg [.h (some 2) none (.box (.t 0)),
 .h (some 3) none (.box (.t 1)),
 .h (some 4) none (.alloc [.nils, .nils, .nils, .nils, .nils, .nils, .nils, .nils, .nils, .nils, .i .i64 0]),
 .h (some 5) none (.alloc [.s ⟨#[]⟩, .nils, .i .i64 0, .s ⟨#[]⟩, .nils, .i .i64 0, .s ⟨#[]⟩, .nils, .i .i64 0, .s ⟨#[]⟩, .nils, .i .i64 0, .s ⟨#[]⟩, .nils, .i .i64 0]),
 .l (some 6) false none (.mv (.c (.ff)))])
 (.seq
 (.reg [.l (some 7) false none (.load 11 true (.t 2)),
 .l (some 8) false none (.mkfn (.func 79) [] [.t 3]),
 .h (some 9) none (.call (.c (.fn (.func 49) [] [])) [.t 7, .t 8]),
 .l (some 10) false none (.ext (.t 9) 0),
 .l (some 11) false none (.ext (.t 9) 1),
 .l (some 12) false none (.ext (.t 9) 2),
 .h none none (.store 11 (.t 4) (.t 10)),
 .h none none (.store 15 (.t 5) (.t 11)),
 .l (some 6) false none (.mv (.t 12))])
 .ret))
def r40 : List MR := [.cell 4 11 true, .cell 5 15 true, .t 6]
theorem is40 : FnIs Tryz.prog 40 13 m40 r40 := ⟨by kernel_rfl, Tryz.f40, _, Tryz.func40, rfl, by decide, rfl, by kernel_rfl, by kernel_rfl⟩

def m41 : MC :=
 (.seq
 (.reg [.h (some 6) none (.alloc [.i .i64 0, .s ⟨#[]⟩, .i .i64 0, .s ⟨#[]⟩]),
 .l (some 7) false none (.mv (.c (.ff)))])
 (.seq
 (.reg [.l (some 13) false none (.mv (.t 2)),
 .h (some 14) none (.call (.c (.fn (.func 81) [] [])) [.t 13]),
 .l (some 12) false none (.mv (.t 14)),
 .l (some 15) false none (.ext (.t 12) 0),
 .l (some 16) false none (.ext (.t 12) 1),
 .l (some 8) false none (.mv (.t 15)),
 .l (some 9) false none (.mv (.t 16))])
 (.seq
 (.seq
 (.dreg (.light 0 (.l (some 17) false none (.mv (.t 9))) <|
 (.light 1 (.l (some 18) false none (.bin .neq (.t 17) (.c (.i .i64 0)))) <|
 (.light 2 (.l (some 19) true none (.mv (.t 18))) <|
 (.light 3 (.l (some 20) false (some (19, false)) (.mv (.t 8))) <|
 (.light 4 (.l (some 21) false (some (19, false)) (.len false (.t 20))) <|
 (.light 5 (.l (some 22) false (some (19, false)) (.bin .neq (.t 21) (.c (.i .i64 7)))) <|
 (.light 6 (.l (some 23) false none (.pick (.t 19) (.c (.tt)) (.t 22))) <|
 (.light 7 (.l (some 24) true none (.mv (.t 23))) <|
 (.light 8 (.l (some 25) false (some (24, false)) (.mv (.t 8))) <|
 (.light 9 (.l (some 26) false (some (24, false)) (.iaddr 1 (.t 25) (.c (.i .i64 0)))) <|
 (.light 10 (.l (some 27) false (some (24, false)) (.load 1 false (.t 26))) <|
 (.light 11 (.l (some 28) false (some (24, false)) (.bin .neq (.t 27) (.c (.s ⟨#[104, 105, 98, 115]⟩)))) <|
 (.light 12 (.l (some 29) false none (.pick (.t 24) (.c (.tt)) (.t 28))) <|
 (.light 13 (.l (some 30) true none (.mv (.t 29))) <|
 (.light 14 (.l (some 31) false (some (30, false)) (.mv (.t 8))) <|
 (.light 15 (.l (some 32) false (some (30, false)) (.iaddr 1 (.t 31) (.c (.i .i64 1)))) <|
 (.light 16 (.l (some 33) false (some (30, false)) (.load 1 false (.t 32))) <|
 (.light 17 (.l (some 34) false (some (30, false)) (.mv (.t 0))) <|
 (.light 18 (.l (some 35) false (some (30, false)) (.bin .neq (.t 33) (.t 34))) <|
 (.light 19 (.l (some 36) false none (.pick (.t 30) (.c (.tt)) (.t 35))) <|
 (.light 20 (.l (some 37) true none (.mv (.t 36))) <|
 (.light 21 (.l (some 38) false (some (37, false)) (.mv (.t 8))) <|
 (.light 22 (.l (some 39) false (some (37, false)) (.iaddr 1 (.t 38) (.c (.i .i64 3)))) <|
 (.light 23 (.l (some 40) false (some (37, false)) (.load 1 false (.t 39))) <|
 (.light 24 (.l (some 41) false (some (37, false)) (.mv (.t 1))) <|
 (.light 25 (.l (some 42) false (some (37, false)) (.bin .add (.t 41) (.c (.i .i64 1)))) <|
 (.heavy 26 [21, 22, 23] (.h (some 43) (some (37, false)) (.call (.c (.fn (.func 37) [] [])) [.t 42]))
 (.light 27 (.l (some 44) false (some (37, false)) (.bin .neq (.t 40) (.t 43))) <|
 (.light 28 (.l (some 45) false none (.pick (.t 37) (.c (.tt)) (.t 44))) <|
 .fin))
 .nil))))))))))))))))))))))))))))
 (.cond (.t 45)
 (.seq
 (.reg [.l (some 46) false none (.build [.i .i64 0, .s ⟨#[]⟩, .i .i64 0, .s ⟨#[]⟩] []),
 .h none none (.store 4 (.t 6) (.t 46)),
 .l (some 7) false none (.mv (.c (.ff)))])
 .ret)
 .skip))
 (.seq
 (.reg [.l (some 48) false none (.mv (.t 8)),
 .l (some 49) false none (.iaddr 1 (.t 48) (.c (.i .i64 2))),
 .l (some 50) false none (.load 1 false (.t 49)),
 .h (some 51) none (.call (.c (.fn (.func 82) [] [])) [.t 50]),
 .l (some 47) false none (.mv (.t 51)),
 .l (some 52) false none (.ext (.t 47) 0),
 .l (some 53) false none (.ext (.t 47) 1),
 .l (some 10) false none (.mv (.t 52)),
 .l (some 11) false none (.mv (.t 53))])
 (.seq
 (.seq
 (.dreg (.light 0 (.l (some 54) false none (.mv (.t 11))) <|
 (.light 1 (.l (some 55) false none (.un .not (.t 54))) <|
 (.light 2 (.l (some 56) true none (.mv (.t 55))) <|
 (.light 3 (.l (some 57) false (some (56, false)) (.mv (.t 10))) <|
 (.light 4 (.l (some 58) false (some (56, false)) (.bin .lss (.t 57) (.c (.i .i64 0)))) <|
 (.light 5 (.l (some 59) false none (.pick (.t 56) (.c (.tt)) (.t 58))) <|
 (.light 6 (.l (some 60) true none (.mv (.t 59))) <|
 (.light 7 (.l (some 61) false (some (60, false)) (.mv (.t 10))) <|
 (.light 8 (.l (some 62) false (some (60, false)) (.bin .gtr (.t 61) (.c (.i .i64 65536)))) <|
 (.light 9 (.l (some 63) false none (.pick (.t 60) (.c (.tt)) (.t 62))) <|
 (.light 10 (.l (some 64) true none (.mv (.t 63))) <|
 (.light 11 (.l (some 65) false (some (64, false)) (.mv (.t 8))) <|
 (.light 12 (.l (some 66) false (some (64, false)) (.iaddr 1 (.t 65) (.c (.i .i64 4)))) <|
 (.light 13 (.l (some 67) false (some (64, false)) (.load 1 false (.t 66))) <|
 (.light 14 (.l (some 68) false (some (64, false)) (.len true (.t 67))) <|
 (.light 15 (.l (some 69) false (some (64, false)) (.bin .neq (.t 68) (.c (.i .i64 32)))) <|
 (.light 16 (.l (some 70) false none (.pick (.t 64) (.c (.tt)) (.t 69))) <|
 (.light 17 (.l (some 71) true none (.mv (.t 70))) <|
 (.light 18 (.l (some 72) false (some (71, false)) (.mv (.t 8))) <|
 (.light 19 (.l (some 73) false (some (71, false)) (.iaddr 1 (.t 72) (.c (.i .i64 6)))) <|
 (.light 20 (.l (some 74) false (some (71, false)) (.load 1 false (.t 73))) <|
 (.light 21 (.l (some 75) false (some (71, false)) (.len true (.t 74))) <|
 (.light 22 (.l (some 76) false (some (71, false)) (.mv (.t 10))) <|
 (.light 23 (.l (some 77) false (some (71, false)) (.bin .add (.t 76) (.c (.i .i64 2)))) <|
 (.light 24 (.l (some 78) false (some (71, false)) (.bin .quo (.t 77) (.c (.i .i64 3)))) <|
 (.light 25 (.l (some 79) false (some (71, false)) (.bin .neq (.t 75) (.t 78))) <|
 (.light 26 (.l (some 80) false none (.pick (.t 71) (.c (.tt)) (.t 79))) <|
 (.light 27 (.l (some 81) true none (.mv (.t 80))) <|
 (.light 28 (.l (some 82) false (some (81, false)) (.mv (.t 8))) <|
 (.light 29 (.l (some 83) false (some (81, false)) (.iaddr 1 (.t 82) (.c (.i .i64 5)))) <|
 (.light 30 (.l (some 84) false (some (81, false)) (.load 1 false (.t 83))) <|
 (.light 31 (.l (some 85) false (some (81, false)) (.mv (.t 8))) <|
 (.light 32 (.l (some 86) false (some (81, false)) (.iaddr 1 (.t 85) (.c (.i .i64 6)))) <|
 (.light 33 (.l (some 87) false (some (81, false)) (.load 1 false (.t 86))) <|
 (.heavy 34 [28, 29, 30] (.h (some 88) (some (81, false)) (.bslice 1 1 [.s ⟨#[]⟩] [(0, 1, .t 87)]))
 (.heavy 35 [28, 29, 30] (.h (some 89) (some (81, false)) (.call (.c (.fn (.func 39) [] [])) [.t 88]))
 (.heavy 36 [28, 29, 30] (.h (some 90) (some (81, false)) (.call (.c (.fn (.func 38) [] [])) [.t 89]))
 (.light 37 (.l (some 91) false (some (81, false)) (.bin .neq (.t 84) (.t 90))) <|
 (.light 38 (.l (some 92) false none (.pick (.t 81) (.c (.tt)) (.t 91))) <|
 .fin))
 .nil)
 .nil)
 .nil))))))))))))))))))))))))))))))))))))
 (.cond (.t 92)
 (.seq
 (.reg [.l (some 93) false none (.build [.i .i64 0, .s ⟨#[]⟩, .i .i64 0, .s ⟨#[]⟩] []),
 .h none none (.store 4 (.t 6) (.t 93)),
 .l (some 7) false none (.mv (.c (.ff)))])
 .ret)
 .skip))
 (.seq
 (.dreg (.light 0 (.l (some 94) false none (.mv (.t 10))) <|
 (.light 1 (.l (some 95) false none (.mv (.t 8))) <|
 (.light 2 (.l (some 96) false none (.iaddr 1 (.t 95) (.c (.i .i64 4)))) <|
 (.light 3 (.l (some 97) false none (.load 1 false (.t 96))) <|
 (.light 4 (.l (some 98) false none (.mv (.t 1))) <|
 (.light 5 (.l (some 99) false none (.bin .add (.t 98) (.c (.i .i64 1)))) <|
 (.light 6 (.l (some 100) false none (.mv (.t 8))) <|
 (.light 7 (.l (some 101) false none (.iaddr 1 (.t 100) (.c (.i .i64 6)))) <|
 (.light 8 (.l (some 102) false none (.load 1 false (.t 101))) <|
 (.light 9 (.l (some 103) false none (.build [.i .i64 0, .s ⟨#[]⟩] [(0, 1, .t 99), (1, 1, .t 102)])) <|
 (.light 10 (.l (some 104) false none (.build [.i .i64 0, .s ⟨#[]⟩, .i .i64 0, .s ⟨#[]⟩] [(0, 1, .t 94), (1, 1, .t 97), (2, 2, .t 103)])) <|
 (.heavy 11 [] (.h none none (.store 4 (.t 6) (.t 104)))
 (.light 12 (.l (some 7) false none (.mv (.c (.tt)))) <|
 .fin)
 .nil)))))))))))))
 .ret))))))
def r41 : List MR := [.cell 6 4 true, .t 7]
theorem is41 : FnIs Tryz.prog 41 105 m41 r41 := ⟨by kernel_rfl, Tryz.f41, _, Tryz.func41, rfl, by decide, rfl, by kernel_rfl, by kernel_rfl⟩

def m42 : MC :=
 (.seq
 (.reg [.h (some 3) none (.box (.t 0)),
 .h (some 4) none (.box (.t 1)),
 .h (some 5) none (.box (.t 2)),
 .l (some 6) false none (.mv (.c (.s ⟨#[]⟩))),
 .l (some 7) false none (.mv (.c (.ff)))])
 (.seq
 (.seq
 (.reg [.l (some 10) false none (.faddr 0 (.t 3)),
 .l (some 11) false none (.load 1 false (.t 10)),
 .l (some 12) false none (.faddr 0 (.t 4)),
 .l (some 13) false none (.load 1 false (.t 12)),
 .l (some 14) false none (.bin .neq (.t 11) (.t 13)),
 .l (some 15) true none (.mv (.t 14)),
 .l (some 16) false (some (15, false)) (.faddr 0 (.t 3)),
 .l (some 17) false (some (15, false)) (.load 1 false (.t 16)),
 .l (some 18) false (some (15, false)) (.faddr 0 (.t 5)),
 .l (some 19) false (some (15, false)) (.load 1 false (.t 18)),
 .l (some 20) false (some (15, false)) (.bin .neq (.t 17) (.t 19)),
 .l (some 21) false none (.pick (.t 15) (.c (.tt)) (.t 20)),
 .l (some 22) true none (.mv (.t 21)),
 .l (some 23) false (some (22, false)) (.faddr 1 (.t 3)),
 .l (some 24) false (some (22, false)) (.load 1 false (.t 23)),
 .l (some 25) false (some (22, false)) (.faddr 1 (.t 4)),
 .l (some 26) false (some (22, false)) (.load 1 false (.t 25)),
 .l (some 27) false (some (22, false)) (.bin .neq (.t 24) (.t 26)),
 .l (some 28) false none (.pick (.t 22) (.c (.tt)) (.t 27)),
 .l (some 29) true none (.mv (.t 28)),
 .l (some 30) false (some (29, false)) (.faddr 1 (.t 3)),
 .l (some 31) false (some (29, false)) (.load 1 false (.t 30)),
 .l (some 32) false (some (29, false)) (.faddr 1 (.t 5)),
 .l (some 33) false (some (29, false)) (.load 1 false (.t 32)),
 .l (some 34) false (some (29, false)) (.bin .neq (.t 31) (.t 33)),
 .l (some 35) false none (.pick (.t 29) (.c (.tt)) (.t 34))])
 (.cond (.t 35)
 (.seq
 (.reg [.l (some 6) false none (.mv (.c (.s ⟨#[]⟩))),
 .l (some 7) false none (.mv (.c (.ff)))])
 .ret)
 .skip))
 (.seq
 (.reg [.l (some 37) false none (.faddr 2 (.t 3)),
 .l (some 38) false none (.load 2 true (.t 37)),
 .l (some 39) false none (.faddr 2 (.t 4)),
 .l (some 40) false none (.load 2 true (.t 39)),
 .l (some 41) false none (.faddr 2 (.t 5)),
 .l (some 42) false none (.load 2 true (.t 41)),
 .h (some 43) none (.bslice 2 3 [.i .i64 0, .s ⟨#[]⟩] [(0, 2, .t 38), (2, 2, .t 40), (4, 2, .t 42)]),
 .l (some 44) false none (.faddr 0 (.t 3)),
 .l (some 45) false none (.load 1 false (.t 44)),
 .h (some 46) none (.call (.c (.fn (.func 83) [] [])) [.t 43, .t 45]),
 .l (some 36) false none (.mv (.t 46)),
 .l (some 47) false none (.ext (.t 36) 0),
 .l (some 48) false none (.ext (.t 36) 1),
 .l (some 8) false none (.mv (.t 47)),
 .l (some 9) false none (.mv (.t 48))])
 (.seq
 (.dreg (.light 0 (.l (some 49) false none (.mv (.t 8))) <|
 (.light 1 (.l (some 50) false none (.mv (.t 9))) <|
 (.light 2 (.l (some 51) false none (.bin .eql (.t 50) (.c (.i .i64 0)))) <|
 (.light 3 (.l (some 52) true none (.mv (.t 51))) <|
 (.light 4 (.l (some 53) false (some (52, true)) (.mv (.t 8))) <|
 (.light 8 (.l (some 57) false (some (52, true)) (.faddr 1 (.t 3))) <|
 (.light 9 (.l (some 58) false (some (52, true)) (.load 1 false (.t 57))) <|
 (.heavy 5 [0, 8, 9] (.h (some 54) (some (52, true)) (.bslice 1 1 [.s ⟨#[]⟩] [(0, 1, .t 53)]))
 (.heavy 6 [0, 8, 9] (.h (some 55) (some (52, true)) (.call (.c (.fn (.func 39) [] [])) [.t 54]))
 (.heavy 7 [0, 8, 9] (.h (some 56) (some (52, true)) (.call (.c (.fn (.func 38) [] [])) [.t 55]))
 (.light 10 (.l (some 59) false (some (52, true)) (.bin .eql (.t 56) (.t 58))) <|
 (.light 11 (.l (some 60) false none (.pick (.t 52) (.t 59) (.c (.ff)))) <|
 (.light 12 (.l (some 6) false none (.mv (.t 49))) <|
 (.light 13 (.l (some 7) false none (.mv (.t 60))) <|
 .fin))))
 .nil)
 .nil)
 .nil)))))))))
 .ret))))
def r42 : List MR := [.t 6, .t 7]
theorem is42 : FnIs Tryz.prog 42 61 m42 r42 := ⟨by kernel_rfl, Tryz.f42, _, Tryz.func42, rfl, by decide, rfl, by kernel_rfl, by kernel_rfl⟩

def m43 : MC :=
 (.seq
 (.reg [.h (some 2) none (.box (.t 0)),
 .l (some 4) false none (.mv (.c (.i .i64 0)))])
 (.seq
 (.seq
 (.reg [.l (some 8) false none (.mv (.t 1))])
 (.cond (.t 8)
 (.seq
 (.reg [.l (some 4) false none (.mv (.c (.i .i64 17)))])
 .ret)
 .skip))
 (.seq
 (.reg [.l (some 5) false none (.mv (.c (.i .i64 0)))])
 (.seq
 (.seq
 (.reg [.l (some 9) false none (.load 15 true (.t 2)),
 .l (some 10) false none (.mv (.c (.i .i64 0)))])
 (.block 0
 (.loop
 (.seq
 (.reg [.l (some 11) false none (.bin .lss (.t 10) (.c (.i .i64 5)))])
 (.seq
 (.cond (.t 11)
 .skip
 (.exit 0))
 (.seq
 (.block 1
 (.seq
 (.reg [.l (some 12) false none (.idxA 5 3 true (.t 9) (.t 10)),
 .h (some 7) none (.alloc [.s ⟨#[]⟩, .nils, .i .i64 0]),
 .h none none (.store 3 (.t 7) (.t 12))])
 (.seq
 (.reg [.l (some 13) false none (.faddr 2 (.t 7)),
 .l (some 14) false none (.load 1 false (.t 13)),
 .l (some 15) false none (.bin .eql (.t 14) (.c (.i .i64 9)))])
 (.cond (.t 15)
 (.reg [.l (some 16) false none (.mv (.t 5)),
 .l (some 17) false none (.bin .add (.t 16) (.c (.i .i64 1))),
 .l (some 5) false none (.mv (.t 17))])
 .skip))))
 (.reg [.l (some 18) false none (.bin .add (.t 10) (.c (.i .i64 1))),
 .l (some 10) false none (.mv (.t 18))])))))))
 (.seq
 (.seq
 (.reg [.l (some 19) false none (.mv (.t 5)),
 .l (some 20) false none (.bin .geq (.t 19) (.c (.i .i64 3)))])
 (.cond (.t 20)
 (.seq
 (.reg [.l (some 4) false none (.mv (.c (.i .i64 9)))])
 .ret)
 .skip))
 (.seq
 (.reg [.l (some 4) false none (.mv (.c (.i .i64 18)))])
 .ret))))))
def r43 : List MR := [.t 4]
theorem is43 : FnIs Tryz.prog 43 21 m43 r43 := ⟨by kernel_rfl, Tryz.f43, _, Tryz.func43, rfl, by decide, rfl, by kernel_rfl, by kernel_rfl⟩

def m47 : MC :=
 (.seq
 (.reg [.l (some 3) false none (.mv (.c (.s ⟨#[]⟩)))])
 (.seq
 (.reg [.l (some 4) false none (.load 1 false (.t 1)),
 .l (some 3) false none (.mv (.t 4))])
 .ret))
def r47 : List MR := [.t 3]
theorem is47 : FnIs Tryz.prog 47 5 m47 r47 := ⟨by kernel_rfl, Tryz.f47, _, Tryz.func47, rfl, by decide, rfl, by kernel_rfl, by kernel_rfl⟩

def m49 : MC :=
 (.seq
 (.reg [.h (some 2) none (.box (.t 0)),
 .h (some 4) none (.alloc [.nils, .nils, .nils, .nils, .nils, .nils, .nils, .nils, .nils, .nils, .i .i64 0]),
 .h (some 5) none (.alloc [.s ⟨#[]⟩, .nils, .i .i64 0, .s ⟨#[]⟩, .nils, .i .i64 0, .s ⟨#[]⟩, .nils, .i .i64 0, .s ⟨#[]⟩, .nils, .i .i64 0, .s ⟨#[]⟩, .nils, .i .i64 0]),
 .l (some 6) false none (.mv (.c (.ff)))])
 (.seq
 (.reg [.h (some 7) none (.alloc [.s ⟨#[]⟩, .nils, .i .i64 0, .s ⟨#[]⟩, .nils, .i .i64 0, .s ⟨#[]⟩, .nils, .i .i64 0, .s ⟨#[]⟩, .nils, .i .i64 0, .s ⟨#[]⟩, .nils, .i .i64 0])])
 (.seq
 (.reg [.l (some 8) false none (.mv (.c (.ff)))])
 (.seq
 (.seq
 (.reg [.l (some 10) false none (.mv (.c (.i .i64 0)))])
 (.block 0
 (.loop
 (.seq
 (.reg [.l (some 11) false none (.bin .lss (.t 10) (.c (.i .i64 5)))])
 (.seq
 (.cond (.t 11)
 .skip
 (.exit 0))
 (.seq
 (.block 1
 (.seq
 (.reg [.l (some 12) false none (.mv (.t 10)),
 .l (some 9) false none (.mv (.t 12))])
 (.seq
 (.seq
 (.reg [.l (some 13) false none (.faddr 10 (.t 2)),
 .l (some 14) false none (.load 1 false (.t 13)),
 .l (some 15) false none (.bin .eql (.t 14) (.c (.i .i64 0)))])
 (.cond (.t 15)
 (.seq
 (.reg [.l (some 16) false none (.mv (.t 9)),
 .l (some 17) false none (.iaddrA 5 3 (.t 7) (.t 16)),
 .l (some 18) false none (.faddr 2 (.t 17)),
 .h none none (.store 1 (.t 18) (.c (.i .i64 17))),
 .l (some 8) false none (.mv (.c (.tt)))])
 (.exit 1))
 .skip))
 (.seq
 (.seq
 (.reg [.l (some 19) false none (.faddr 10 (.t 2)),
 .l (some 20) false none (.load 1 false (.t 19)),
 .l (some 21) false none (.bin .gtr (.t 20) (.c (.i .i64 0)))])
 (.cond (.t 21)
 (.reg [.l (some 22) false none (.faddr 10 (.t 2)),
 .l (some 23) false none (.load 1 false (.t 22)),
 .l (some 24) false none (.bin .sub (.t 23) (.c (.i .i64 1))),
 .l (some 25) false none (.faddr 10 (.t 2)),
 .h none none (.store 1 (.t 25) (.t 24))])
 .skip))
 (.reg [.l (some 27) false none (.mv (.t 9)),
 .l (some 28) false none (.mv (.t 9)),
 .l (some 29) false none (.mv (.t 1)),
 .l (some 30) false none (.mv (.t 9)),
 .l (some 31) false none (.mv (.t 9)),
 .l (some 32) false none (.faddr 0 (.t 2)),
 .l (some 33) false none (.iaddrA 5 2 (.t 32) (.t 31)),
 .l (some 34) false none (.load 2 true (.t 33)),
 .h (some 35) none (.call (.t 29) [.t 30, .t 34]),
 .l (some 26) false none (.mv (.t 35)),
 .l (some 36) false none (.ext (.t 26) 0),
 .l (some 37) false none (.ext (.t 26) 1),
 .l (some 38) false none (.faddr 0 (.t 2)),
 .l (some 39) false none (.iaddrA 5 2 (.t 38) (.t 27)),
 .h none none (.store 2 (.t 39) (.t 36)),
 .l (some 40) false none (.iaddrA 5 3 (.t 7) (.t 28)),
 .h none none (.store 3 (.t 40) (.t 37))])))))
 (.reg [.l (some 41) false none (.bin .add (.t 10) (.c (.i .i64 1))),
 .l (some 10) false none (.mv (.t 41))])))))))
 (.seq
 (.dreg (.light 0 (.l (some 42) false none (.load 11 true (.t 2))) <|
 (.light 1 (.l (some 43) false none (.load 15 true (.t 7))) <|
 (.light 2 (.l (some 44) false none (.mv (.t 8))) <|
 (.heavy 3 [1, 2] (.h none none (.store 11 (.t 4) (.t 42)))
 (.heavy 4 [2] (.h none none (.store 15 (.t 5) (.t 43)))
 (.light 5 (.l (some 6) false none (.mv (.t 44))) <|
 .fin)
 .nil)
 .nil)))))
 .ret)))))
def r49 : List MR := [.cell 4 11 true, .cell 5 15 true, .t 6]
theorem is49 : FnIs Tryz.prog 49 45 m49 r49 := ⟨by kernel_rfl, Tryz.f49, _, Tryz.func49, rfl, by decide, rfl, by kernel_rfl, by kernel_rfl⟩

def m52 : MC :=
 (.seq
 (.reg [.h (some 2) none (.box (.t 0)),
 .l (some 4) false none (.mv (.c (.i .i64 0)))])
 (.seq
 (.seq
 (.reg [.l (some 7) false none (.load 15 true (.t 2)),
 .l (some 8) false none (.mv (.c (.i .i64 0)))])
 (.block 0
 (.loop
 (.seq
 (.reg [.l (some 9) false none (.bin .lss (.t 8) (.c (.i .i64 5)))])
 (.seq
 (.cond (.t 9)
 .skip
 (.exit 0))
 (.seq
 (.block 1
 (.seq
 (.reg [.l (some 10) false none (.idxA 5 3 true (.t 7) (.t 8)),
 .h (some 6) none (.alloc [.s ⟨#[]⟩, .nils, .i .i64 0]),
 .h none none (.store 3 (.t 6) (.t 10))])
 (.seq
 (.reg [.l (some 11) false none (.faddr 2 (.t 6)),
 .l (some 12) false none (.load 1 false (.t 11)),
 .l (some 13) false none (.bin .neq (.t 12) (.c (.i .i64 0))),
 .l (some 14) true none (.mv (.t 13)),
 .l (some 15) false (some (14, true)) (.faddr 2 (.t 6)),
 .l (some 16) false (some (14, true)) (.load 1 false (.t 15)),
 .l (some 17) false (some (14, true)) (.mv (.t 1)),
 .l (some 18) false (some (14, true)) (.bin .neq (.t 16) (.t 17)),
 .l (some 19) false none (.pick (.t 14) (.t 18) (.c (.ff)))])
 (.cond (.t 19)
 (.seq
 (.reg [.l (some 20) false none (.faddr 2 (.t 6)),
 .l (some 21) false none (.load 1 false (.t 20)),
 .l (some 4) false none (.mv (.t 21))])
 .ret)
 .skip))))
 (.reg [.l (some 22) false none (.bin .add (.t 8) (.c (.i .i64 1))),
 .l (some 8) false none (.mv (.t 22))])))))))
 (.seq
 (.reg [.l (some 4) false none (.mv (.c (.i .i64 0)))])
 .ret)))
def r52 : List MR := [.t 4]
theorem is52 : FnIs Tryz.prog 52 23 m52 r52 := ⟨by kernel_rfl, Tryz.f52, _, Tryz.func52, rfl, by decide, rfl, by kernel_rfl, by kernel_rfl⟩

def m67 : MC :=
 (.seq
 (.reg [.l (some 2) false none (.mv (.c (.i .i64 0)))])
 (.seq
 (.seq
 (.reg [.l (some 3) false none (.mv (.t 0)),
 .l (some 4) false none (.bin .lss (.t 3) (.c (.i .i64 0)))])
 (.cond (.t 4)
 (.seq
 (.reg [.l (some 2) false none (.mv (.c (.i .i64 0)))])
 .ret)
 .skip))
 (.seq
 (.reg [.l (some 5) false none (.mv (.t 0)),
 .l (some 6) false none (.bin .quo (.t 5) (.c (.i .i64 3))),
 .l (some 7) false none (.mv (.t 0)),
 .l (some 8) false none (.bin .rem (.t 7) (.c (.i .i64 3))),
 .l (some 9) false none (.mm false (.t 8) (.c (.i .i64 1))),
 .l (some 10) false none (.bin .add (.t 6) (.t 9)),
 .l (some 2) false none (.mv (.t 10))])
 .ret)))
def r67 : List MR := [.t 2]
theorem is67 : FnIs Tryz.prog 67 11 m67 r67 := ⟨by kernel_rfl, Tryz.f67, _, Tryz.func67, rfl, by decide, rfl, by kernel_rfl, by kernel_rfl⟩

def m68 : YC :=
 (.seq
 (.reg [.l (some 6) false none (.mv (.c (.nils)))])
 (.seq
 (.reg [.l (some 10) false none (.mv (.t 1)),
 .l (some 11) false none (.iaddr 1 (.t 10) (.c (.i .i64 0))),
 .l (some 12) false none (.load 1 false (.t 11)),
 .l (some 13) false none (.len false (.t 12)),
 .h (some 14) none (.mks 1 1 [.i .u8 0] (.t 13) (.t 13)),
 .h (some 7) none (.alloc [.nils]),
 .h none none (.store 1 (.t 7) (.t 14))])
 (.seq
 (.seq
 (.reg [.l (some 15) false none (.mv (.t 0)),
 .l (some 16) false none (.mv (.t 1)),
 .l (some 17) false none (.mv (.t 2)),
 .h (some 18) none (.call (.c (.fn (.func 105) [] [])) [.t 15, .t 16, .t 17])])
 (.block 0
 (.rangeF (.t 18) [19, 20]
 (.seq
 (.reg [.l (some 8) false none (.mv (.t 19))])
 (.reg [.l (some 9) false none (.mv (.t 20))]))
 (.block 1
 (.reg [.l (some 21) false none (.load 1 false (.t 7)),
 .l (some 22) false none (.mv (.t 8)),
 .l (some 23) false none (.mv (.t 9)),
 .l (some 24) false none (.iaddr 1 (.t 21) (.t 22)),
 .h none none (.store 1 (.t 24) (.t 23))])))))
 (.seq
 (.reg [.l (some 25) false none (.load 1 false (.t 7)),
 .l (some 6) false none (.mv (.t 25))])
 .ret))))
def r68 : List MR := [.t 6]
theorem is68 : FnIsY Tryz.prog 68 26 m68 r68 := ⟨Tryz.f68, _, Tryz.func68, rfl, by decide, rfl, by kernel_rfl, by kernel_rfl⟩

def m69 : MC :=
 (.seq
 (.reg [.h (some 5) none (.box (.t 1)),
 .h (some 6) none (.alloc [.nils, .nils]),
 .h (some 7) none (.alloc [.s ⟨#[]⟩, .nils, .i .i64 0])])
 (.seq
 (.dreg (.light 0 (.l (some 10) false none (.load 2 true (.t 5))) <|
 (.light 1 (.l (some 11) false none (.load 1 false (.t 2))) <|
 (.light 2 (.l (some 12) false none (.load 1 false (.t 3))) <|
 (.light 3 (.l (some 13) false none (.mv (.t 0))) <|
 (.heavy 4 [0, 1] (.h (some 14) none (.call (.t 12) [.t 13]))
 (.heavy 5 [] (.h (some 15) none (.call (.c (.fn (.func 70) [] [])) [.t 10, .t 11, .t 14]))
 (.light 6 (.l (some 9) false none (.mv (.t 15))) <|
 (.light 7 (.l (some 16) false none (.ext (.t 9) 0)) <|
 (.light 8 (.l (some 17) false none (.ext (.t 9) 1)) <|
 (.heavy 9 [8] (.h none none (.store 2 (.t 5) (.t 16)))
 (.light 10 (.l (some 8) false none (.mv (.t 17))) <|
 .fin)
 .nil))))
 .nil)
 .nil))))))
 (.seq
 (.reg [.l (some 18) false none (.load 2 true (.t 5)),
 .l (some 19) false none (.mv (.t 8)),
 .l (some 20) false none (.build [.s ⟨#[]⟩, .nils, .i .i64 0] [(2, 1, .t 19)]),
 .h none none (.store 2 (.t 6) (.t 18)),
 .h none none (.store 3 (.t 7) (.t 20))])
 .ret)))
def r69 : List MR := [.cell 6 2 true, .cell 7 3 true]
theorem is69 : FnIs Tryz.prog 69 21 m69 r69 := ⟨by kernel_rfl, Tryz.f69, _, Tryz.func69, rfl, by decide, rfl, by kernel_rfl, by kernel_rfl⟩

def m72 : MC :=
 (.seq
 (.reg [.l (some 2) false none (.mv (.c (.nils)))])
 (.seq
 (.reg [.l (some 3) false none (.mv (.c (.nils)))])
 (.seq
 (.block 0
 (.loop
 (.seq
 (.seq
 (.reg [.l (some 4) false none (.mv (.t 0)),
 .l (some 5) false none (.bin .geq (.t 4) (.c (.i .i64 128)))])
 (.cond (.t 5)
 .skip
 (.exit 0)))
 (.block 1
 (.seq
 (.reg [.l (some 6) false none (.mv (.t 3)),
 .l (some 7) false none (.mv (.t 0)),
 .l (some 8) false none (.bin .rem (.t 7) (.c (.i .i64 128))),
 .l (some 9) false none (.conv .u8 (.t 8)),
 .l (some 10) false none (.bin .add (.t 9) (.c (.i .u8 128))),
 .h (some 11) none (.bslice 1 1 [.i .u8 0] [(0, 1, .t 10)]),
 .h (some 12) none (.app 1 1 (.t 6) (.t 11)),
 .l (some 3) false none (.mv (.t 12))])
 (.reg [.l (some 13) false none (.mv (.t 0)),
 .l (some 14) false none (.bin .quo (.t 13) (.c (.i .i64 128))),
 .l (some 0) false none (.mv (.t 14))]))))))
 (.seq
 (.reg [.l (some 15) false none (.mv (.t 3)),
 .l (some 16) false none (.mv (.t 0)),
 .l (some 17) false none (.conv .u8 (.t 16)),
 .h (some 18) none (.bslice 1 1 [.i .u8 0] [(0, 1, .t 17)]),
 .h (some 19) none (.app 1 1 (.t 15) (.t 18)),
 .l (some 2) false none (.mv (.t 19))])
 .ret))))
def r72 : List MR := [.t 2]
theorem is72 : FnIs Tryz.prog 72 20 m72 r72 := ⟨by kernel_rfl, Tryz.f72, _, Tryz.func72, rfl, by decide, rfl, by kernel_rfl, by kernel_rfl⟩

def m76 : MC :=
 (.seq
 (.reg [.h (some 0) none (.alloc [.i .u32 0, .i .u32 0, .i .u32 0, .i .u32 0, .i .u32 0, .i .u32 0, .i .u32 0, .i .u32 0])])
 (.seq
 (.reg [.l (some 1) false none (.build [.i .u32 0, .i .u32 0, .i .u32 0, .i .u32 0, .i .u32 0, .i .u32 0, .i .u32 0, .i .u32 0] [(0, 1, .c (.i .u32 1779033703)), (1, 1, .c (.i .u32 3144134277)), (2, 1, .c (.i .u32 1013904242)), (3, 1, .c (.i .u32 2773480762)), (4, 1, .c (.i .u32 1359893119)), (5, 1, .c (.i .u32 2600822924)), (6, 1, .c (.i .u32 528734635)), (7, 1, .c (.i .u32 1541459225))]),
 .h none none (.store 8 (.t 0) (.t 1))])
 .ret))
def r76 : List MR := [.cell 0 8 true]
theorem is76 : FnIs Tryz.prog 76 2 m76 r76 := ⟨by kernel_rfl, Tryz.f76, _, Tryz.func76, rfl, by decide, rfl, by kernel_rfl, by kernel_rfl⟩

def m77 : MC :=
 (.seq
 (.reg [.h (some 2) none (.box (.t 0)),
 .h (some 4) none (.alloc [.i .u8 0, .i .u8 0, .i .u8 0, .i .u8 0, .i .u8 0, .i .u8 0, .i .u8 0, .i .u8 0, .i .u8 0, .i .u8 0, .i .u8 0, .i .u8 0, .i .u8 0, .i .u8 0, .i .u8 0, .i .u8 0, .i .u8 0, .i .u8 0, .i .u8 0, .i .u8 0, .i .u8 0, .i .u8 0, .i .u8 0, .i .u8 0, .i .u8 0, .i .u8 0, .i .u8 0, .i .u8 0, .i .u8 0, .i .u8 0, .i .u8 0, .i .u8 0])])
 (.seq
 (.reg [.l (some 5) false none (.mv (.c (.i .u64 0)))])
 (.seq
 (.block 0
 (.loop
 (.seq
 (.seq
 (.reg [.l (some 10) false none (.mv (.t 1)),
 .l (some 11) false none (.len true (.t 10)),
 .l (some 12) false none (.bin .gtr (.t 11) (.c (.i .i64 64)))])
 (.cond (.t 12)
 .skip
 (.exit 0)))
 (.block 1
 (.seq
 (.reg [.l (some 13) false none (.mv (.t 5)),
 .l (some 14) false none (.bin .add (.t 13) (.c (.i .u64 64))),
 .l (some 5) false none (.mv (.t 14))])
 (.dreg (.light 0 (.l (some 15) false none (.load 8 true (.t 2))) <|
 (.light 1 (.l (some 16) false none (.mv (.t 1))) <|
 (.light 2 (.l (some 17) false none (.slcS (.t 16) none (some (.c (.i .i64 64))))) <|
 (.light 3 (.l (some 18) false none (.mv (.t 5))) <|
 (.light 5 (.l (some 20) false none (.mv (.t 1))) <|
 (.light 6 (.l (some 21) false none (.slcS (.t 20) (some (.c (.i .i64 64))) none)) <|
 (.heavy 4 [5, 6] (.h (some 19) none (.call (.c (.fn (.func 110) [] [])) [.t 15, .t 17, .t 18, .c (.ff)]))
 (.heavy 7 [5, 6] (.h none none (.store 8 (.t 2) (.t 19)))
 (.light 8 (.l (some 1) false none (.mv (.t 21))) <|
 .fin)
 .nil)
 .nil)))))))))))))
 (.seq
 (.reg [.l (some 22) false none (.mv (.t 5)),
 .l (some 23) false none (.mv (.t 1)),
 .l (some 24) false none (.len true (.t 23)),
 .l (some 25) false none (.conv .u64 (.t 24)),
 .l (some 26) false none (.bin .add (.t 22) (.t 25)),
 .l (some 5) false none (.mv (.t 26))])
 (.seq
 (.dreg (.light 0 (.l (some 27) false none (.load 8 true (.t 2))) <|
 (.light 1 (.l (some 28) false none (.mv (.t 1))) <|
 (.light 2 (.l (some 29) false none (.mv (.t 1))) <|
 (.light 3 (.l (some 30) false none (.len true (.t 29))) <|
 (.light 4 (.l (some 31) false none (.bin .sub (.c (.i .i64 64)) (.t 30))) <|
 (.light 7 (.l (some 34) false none (.mv (.t 5))) <|
 (.heavy 5 [0, 1, 7] (.h (some 32) none (.call (.c (.fn (.func 111) [] [])) [.c (.s ⟨#[0]⟩), .t 31]))
 (.light 6 (.l (some 33) false none (.bin .add (.t 28) (.t 32))) <|
 (.heavy 8 [] (.h (some 35) none (.call (.c (.fn (.func 110) [] [])) [.t 27, .t 33, .t 34, .c (.tt)]))
 (.heavy 9 [] (.h none none (.store 8 (.t 2) (.t 35)))
 .fin
 .nil)
 .nil))
 .nil))))))))
 (.seq
 (.reg [.h (some 6) none (.alloc [.i .u8 0, .i .u8 0, .i .u8 0, .i .u8 0, .i .u8 0, .i .u8 0, .i .u8 0, .i .u8 0, .i .u8 0, .i .u8 0, .i .u8 0, .i .u8 0, .i .u8 0, .i .u8 0, .i .u8 0, .i .u8 0, .i .u8 0, .i .u8 0, .i .u8 0, .i .u8 0, .i .u8 0, .i .u8 0, .i .u8 0, .i .u8 0, .i .u8 0, .i .u8 0, .i .u8 0, .i .u8 0, .i .u8 0, .i .u8 0, .i .u8 0, .i .u8 0])])
 (.seq
 (.seq
 (.reg [.l (some 36) false none (.load 8 true (.t 2)),
 .l (some 37) false none (.mv (.c (.i .i64 0)))])
 (.block 2
 (.loop
 (.seq
 (.reg [.l (some 38) false none (.bin .lss (.t 37) (.c (.i .i64 8)))])
 (.seq
 (.cond (.t 38)
 .skip
 (.exit 2))
 (.seq
 (.block 3
 (.seq
 (.reg [.l (some 39) false none (.mv (.t 37)),
 .l (some 40) false none (.idxA 8 1 false (.t 36) (.t 37)),
 .l (some 7) false none (.mv (.t 39)),
 .l (some 8) false none (.mv (.t 40))])
 (.seq
 (.reg [.l (some 41) false none (.mv (.c (.i .i64 0)))])
 (.block 4
 (.loop
 (.seq
 (.reg [.l (some 42) false none (.bin .lss (.t 41) (.c (.i .i64 4)))])
 (.seq
 (.cond (.t 42)
 .skip
 (.exit 4))
 (.seq
 (.block 5
 (.seq
 (.reg [.l (some 43) false none (.mv (.t 41)),
 .l (some 9) false none (.mv (.t 43))])
 (.reg [.l (some 44) false none (.mv (.t 7)),
 .l (some 45) false none (.bin .mul (.c (.i .i64 4)) (.t 44)),
 .l (some 46) false none (.mv (.t 9)),
 .l (some 47) false none (.bin .add (.t 45) (.t 46)),
 .l (some 48) false none (.mv (.t 8)),
 .l (some 49) false none (.mv (.t 9)),
 .l (some 50) false none (.bin .mul (.c (.i .i64 8)) (.t 49)),
 .l (some 51) false none (.bin .shr (.t 48) (.t 50)),
 .l (some 52) false none (.conv .u8 (.t 51)),
 .l (some 53) false none (.iaddrA 32 1 (.t 6) (.t 47)),
 .h none none (.store 1 (.t 53) (.t 52))])))
 (.reg [.l (some 54) false none (.bin .add (.t 41) (.c (.i .i64 1))),
 .l (some 41) false none (.mv (.t 54))])))))))))
 (.reg [.l (some 55) false none (.bin .add (.t 37) (.c (.i .i64 1))),
 .l (some 37) false none (.mv (.t 55))])))))))
 (.seq
 (.reg [.l (some 56) false none (.load 32 true (.t 6)),
 .h none none (.store 32 (.t 4) (.t 56))])
 .ret))))))))
def r77 : List MR := [.cell 4 32 true]
theorem is77 : FnIs Tryz.prog 77 57 m77 r77 := ⟨by kernel_rfl, Tryz.f77, _, Tryz.func77, rfl, by decide, rfl, by kernel_rfl, by kernel_rfl⟩

def m78 : MC :=
 (.seq
 (.reg [.l (some 4) false none (.mv (.c (.s ⟨#[]⟩)))])
 (.seq
 (.seq
 (.reg [.l (some 11) false none (.mv (.t 0)),
 .l (some 12) false none (.len false (.t 11))])
 (.block 0
 (.seq
 (.reg [.l (some 14) false none (.bin .eql (.t 12) (.c (.i .i64 0))),
 .l (some 13) false none (.mv (.t 14))])
 (.cond (.t 13)
 (.seq
 (.reg [.l (some 4) false none (.mv (.c (.s ⟨#[]⟩)))])
 .ret)
 (.seq
 (.reg [.l (some 16) false none (.bin .eql (.t 12) (.c (.i .i64 1))),
 .l (some 15) false none (.mv (.t 16))])
 (.cond (.t 15)
 (.seq
 (.reg [.l (some 17) false none (.mv (.t 0)),
 .l (some 18) false none (.iaddr 1 (.t 17) (.c (.i .i64 0))),
 .l (some 19) false none (.load 1 false (.t 18)),
 .l (some 4) false none (.mv (.t 19))])
 .ret)
 .skip))))))
 (.seq
 (.reg [.l (some 5) false none (.mv (.c (.i .i64 0)))])
 (.seq
 (.seq
 (.reg [.l (some 20) false none (.mv (.t 1)),
 .l (some 21) false none (.len true (.t 20)),
 .l (some 22) false none (.bin .gtr (.t 21) (.c (.i .i64 0)))])
 (.cond (.t 22)
 (.seq
 (.seq
 (.reg [.l (some 23) false none (.mv (.t 1)),
 .l (some 24) false none (.len true (.t 23)),
 .l (some 25) false none (.mv (.t 0)),
 .l (some 26) false none (.len false (.t 25)),
 .l (some 27) false none (.bin .sub (.t 26) (.c (.i .i64 1))),
 .l (some 28) false none (.bin .quo (.c (.i .i64 9223372036854775807)) (.t 27)),
 .l (some 29) false none (.bin .geq (.t 24) (.t 28))])
 (.cond (.t 29)
 (.reg [.h (some 30) none (.call (.c (.nils)) []),
 .h none none (.call (.c (.nils)) [])])
 .skip))
 (.reg [.l (some 31) false none (.mv (.t 5)),
 .l (some 32) false none (.mv (.t 1)),
 .l (some 33) false none (.len true (.t 32)),
 .l (some 34) false none (.mv (.t 0)),
 .l (some 35) false none (.len false (.t 34)),
 .l (some 36) false none (.bin .sub (.t 35) (.c (.i .i64 1))),
 .l (some 37) false none (.bin .mul (.t 33) (.t 36)),
 .l (some 38) false none (.bin .add (.t 31) (.t 37)),
 .l (some 5) false none (.mv (.t 38))]))
 .skip))
 (.seq
 (.seq
 (.reg [.l (some 39) false none (.mv (.t 0)),
 .l (some 40) false none (.len false (.t 39)),
 .l (some 41) false none (.mv (.c (.i .i64 0)))])
 (.block 1
 (.loop
 (.seq
 (.reg [.l (some 42) false none (.bin .lss (.t 41) (.t 40))])
 (.seq
 (.cond (.t 42)
 .skip
 (.exit 1))
 (.seq
 (.block 2
 (.seq
 (.reg [.l (some 43) false none (.iaddr 1 (.t 39) (.t 41)),
 .l (some 44) false none (.load 1 false (.t 43)),
 .l (some 7) false none (.mv (.t 44))])
 (.seq
 (.seq
 (.reg [.l (some 45) false none (.mv (.t 7)),
 .l (some 46) false none (.len true (.t 45)),
 .l (some 47) false none (.mv (.t 5)),
 .l (some 48) false none (.bin .sub (.c (.i .i64 9223372036854775807)) (.t 47)),
 .l (some 49) false none (.bin .gtr (.t 46) (.t 48))])
 (.cond (.t 49)
 (.reg [.h (some 50) none (.call (.c (.nils)) []),
 .h none none (.call (.c (.nils)) [])])
 .skip))
 (.reg [.l (some 51) false none (.mv (.t 5)),
 .l (some 52) false none (.mv (.t 7)),
 .l (some 53) false none (.len true (.t 52)),
 .l (some 54) false none (.bin .add (.t 51) (.t 53)),
 .l (some 5) false none (.mv (.t 54))]))))
 (.reg [.l (some 55) false none (.bin .add (.t 41) (.c (.i .i64 1))),
 .l (some 41) false none (.mv (.t 55))])))))))
 (.seq
 (.reg [.h (some 8) none (.alloc [.raw (.pointer none), .nils])])
 (.seq
 (.reg [.l (some 56) false none (.mv (.t 5)),
 .h (some 57) none (.call (.c (.fn (.func 112) [] [])) [.t 8, .t 56])])
 (.seq
 (.reg [.l (some 58) false none (.mv (.t 0)),
 .l (some 59) false none (.iaddr 1 (.t 58) (.c (.i .i64 0))),
 .l (some 60) false none (.load 1 false (.t 59)),
 .h (some 61) none (.call (.c (.fn (.func 73) [] [])) [.t 8, .t 60])])
 (.seq
 (.seq
 (.reg [.l (some 62) false none (.mv (.t 0)),
 .l (some 63) false none (.slc 1 (.t 62) (some (.c (.i .i64 1))) none),
 .l (some 64) false none (.len false (.t 63)),
 .l (some 65) false none (.mv (.c (.i .i64 0)))])
 (.block 3
 (.loop
 (.seq
 (.reg [.l (some 66) false none (.bin .lss (.t 65) (.t 64))])
 (.seq
 (.cond (.t 66)
 .skip
 (.exit 3))
 (.seq
 (.block 4
 (.seq
 (.reg [.l (some 67) false none (.iaddr 1 (.t 63) (.t 65)),
 .l (some 68) false none (.load 1 false (.t 67)),
 .l (some 10) false none (.mv (.t 68))])
 (.seq
 (.reg [.l (some 69) false none (.mv (.t 1)),
 .h (some 70) none (.call (.c (.fn (.func 73) [] [])) [.t 8, .t 69])])
 (.reg [.l (some 71) false none (.mv (.t 10)),
 .h (some 72) none (.call (.c (.fn (.func 73) [] [])) [.t 8, .t 71])]))))
 (.reg [.l (some 73) false none (.bin .add (.t 65) (.c (.i .i64 1))),
 .l (some 65) false none (.mv (.t 73))])))))))
 (.seq
 (.reg [.h (some 74) none (.call (.c (.fn (.func 74) [] [])) [.t 8]),
 .l (some 4) false none (.mv (.t 74))])
 .ret))))))))))
def r78 : List MR := [.t 4]
theorem is78 : FnIs Tryz.prog 78 75 m78 r78 := ⟨by kernel_rfl, Tryz.f78, _, Tryz.func78, rfl, by decide, rfl, by kernel_rfl, by kernel_rfl⟩

def m79 : MC :=
 (.seq
 (.reg [.h (some 4) none (.box (.t 1)),
 .h (some 5) none (.alloc [.nils, .nils]),
 .h (some 6) none (.alloc [.s ⟨#[]⟩, .nils, .i .i64 0])])
 (.seq
 (.reg [.l (some 10) false none (.load 2 true (.t 4)),
 .l (some 11) false none (.load 1 false (.t 2)),
 .h (some 12) none (.call (.c (.fn (.func 80) [] [])) [.t 10, .t 11]),
 .l (some 9) false none (.mv (.t 12)),
 .l (some 13) false none (.ext (.t 9) 0),
 .l (some 14) false none (.ext (.t 9) 1),
 .l (some 15) false none (.ext (.t 9) 2),
 .h none none (.store 2 (.t 4) (.t 13)),
 .l (some 7) false none (.mv (.t 14)),
 .l (some 8) false none (.mv (.t 15))])
 (.seq
 (.reg [.l (some 16) false none (.load 2 true (.t 4)),
 .l (some 17) false none (.mv (.t 7)),
 .l (some 18) false none (.mv (.t 8)),
 .l (some 19) false none (.build [.s ⟨#[]⟩, .nils, .i .i64 0] [(0, 1, .t 17), (2, 1, .t 18)]),
 .h none none (.store 2 (.t 5) (.t 16)),
 .h none none (.store 3 (.t 6) (.t 19))])
 .ret)))
def r79 : List MR := [.cell 5 2 true, .cell 6 3 true]
theorem is79 : FnIs Tryz.prog 79 20 m79 r79 := ⟨by kernel_rfl, Tryz.f79, _, Tryz.func79, rfl, by decide, rfl, by kernel_rfl, by kernel_rfl⟩

def m81 : MC :=
 (.seq
 (.reg [.l (some 2) false none (.mv (.c (.nils))),
 .l (some 3) false none (.mv (.c (.i .i64 0)))])
 (.seq
 (.reg [.l (some 4) false none (.mv (.c (.nils)))])
 (.seq
 (.block 0
 (.loop
 (.seq
 (.seq
 (.reg [.l (some 8) false none (.mv (.t 0)),
 .l (some 9) false none (.bin .neq (.t 8) (.c (.s ⟨#[]⟩)))])
 (.cond (.t 9)
 .skip
 (.exit 0)))
 (.block 1
 (.seq
 (.reg [.l (some 11) false none (.mv (.t 0)),
 .h (some 12) none (.call (.c (.fn (.func 113) [] [])) [.t 11]),
 .l (some 10) false none (.mv (.t 12)),
 .l (some 13) false none (.ext (.t 10) 0),
 .l (some 14) false none (.ext (.t 10) 1),
 .l (some 15) false none (.ext (.t 10) 2),
 .l (some 5) false none (.mv (.t 13)),
 .l (some 6) false none (.mv (.t 14)),
 .l (some 7) false none (.mv (.t 15))])
 (.seq
 (.block 2
 (.seq
 (.reg [.l (some 17) false none (.mv (.t 7)),
 .l (some 18) false none (.bin .neq (.t 17) (.c (.i .i64 0))),
 .l (some 16) false none (.mv (.t 18))])
 (.cond (.t 16)
 (.seq
 (.reg [.l (some 19) false none (.mv (.t 7)),
 .l (some 2) false none (.mv (.c (.nils))),
 .l (some 3) false none (.mv (.t 19))])
 .ret)
 (.seq
 (.reg [.l (some 21) false none (.mv (.t 0)),
 .l (some 22) false none (.len true (.t 21)),
 .l (some 23) false none (.mv (.t 6)),
 .l (some 24) false none (.bin .sub (.t 22) (.t 23)),
 .l (some 25) false none (.mv (.t 5)),
 .l (some 26) false none (.bin .lss (.t 24) (.t 25)),
 .l (some 20) false none (.mv (.t 26))])
 (.cond (.t 20)
 (.seq
 (.reg [.l (some 2) false none (.mv (.c (.nils))),
 .l (some 3) false none (.mv (.c (.i .i64 4)))])
 .ret)
 .skip)))))
 (.seq
 (.reg [.l (some 27) false none (.mv (.t 4)),
 .l (some 28) false none (.mv (.t 0)),
 .l (some 29) false none (.mv (.t 6)),
 .l (some 30) false none (.mv (.t 6)),
 .l (some 31) false none (.mv (.t 5)),
 .l (some 32) false none (.bin .add (.t 30) (.t 31)),
 .l (some 33) false none (.slcS (.t 28) (some (.t 29)) (some (.t 32))),
 .h (some 34) none (.bslice 1 1 [.s ⟨#[]⟩] [(0, 1, .t 33)]),
 .h (some 35) none (.app 1 16 (.t 27) (.t 34)),
 .l (some 4) false none (.mv (.t 35))])
 (.reg [.l (some 36) false none (.mv (.t 0)),
 .l (some 37) false none (.mv (.t 6)),
 .l (some 38) false none (.mv (.t 5)),
 .l (some 39) false none (.bin .add (.t 37) (.t 38)),
 .l (some 40) false none (.slcS (.t 36) (some (.t 39)) none),
 .l (some 0) false none (.mv (.t 40))]))))))))
 (.seq
 (.reg [.l (some 41) false none (.mv (.t 4)),
 .l (some 2) false none (.mv (.t 41)),
 .l (some 3) false none (.mv (.c (.i .i64 0)))])
 .ret))))
def r81 : List MR := [.t 2, .t 3]
theorem is81 : FnIs Tryz.prog 81 42 m81 r81 := ⟨by kernel_rfl, Tryz.f81, _, Tryz.func81, rfl, by decide, rfl, by kernel_rfl, by kernel_rfl⟩

def m82 : MC :=
 (.seq
 (.reg [.l (some 2) false none (.mv (.c (.i .i64 0))),
 .l (some 3) false none (.mv (.c (.ff)))])
 (.seq
 (.reg [.l (some 7) false none (.mv (.t 0)),
 .h (some 8) none (.call (.c (.fn (.func 114) [] [])) [.t 7, .c (.i .i64 10), .c (.i .i64 64)]),
 .l (some 6) false none (.mv (.t 8)),
 .l (some 9) false none (.ext (.t 6) 0),
 .l (some 10) false none (.ext (.t 6) 1),
 .l (some 4) false none (.mv (.t 9)),
 .l (some 5) false none (.mv (.t 10))])
 (.seq
 (.seq
 (.reg [.l (some 11) false none (.mv (.t 5)),
 .h (some 12) none (.eqi true (.t 11)),
 .l (some 13) true none (.mv (.t 12)),
 .l (some 14) false (some (13, false)) (.mv (.t 4)),
 .h (some 15) (some (13, false)) (.call (.c (.fn (.func 37) [] [])) [.t 14]),
 .l (some 16) false (some (13, false)) (.mv (.t 0)),
 .l (some 17) false (some (13, false)) (.bin .neq (.t 15) (.t 16)),
 .l (some 18) false none (.pick (.t 13) (.c (.tt)) (.t 17))])
 (.cond (.t 18)
 (.seq
 (.reg [.l (some 2) false none (.mv (.c (.i .i64 0))),
 .l (some 3) false none (.mv (.c (.ff)))])
 .ret)
 .skip))
 (.seq
 (.reg [.l (some 19) false none (.mv (.t 4)),
 .l (some 2) false none (.mv (.t 19)),
 .l (some 3) false none (.mv (.c (.tt)))])
 .ret))))
def r82 : List MR := [.t 2, .t 3]
theorem is82 : FnIs Tryz.prog 82 20 m82 r82 := ⟨by kernel_rfl, Tryz.f82, _, Tryz.func82, rfl, by decide, rfl, by kernel_rfl, by kernel_rfl⟩

def m83 : MC :=
 (.seq
 (.reg [.l (some 4) false none (.mv (.c (.s ⟨#[]⟩))),
 .l (some 5) false none (.mv (.c (.i .i64 0)))])
 (.seq
 (.seq
 (.reg [.l (some 14) false none (.mv (.t 1)),
 .l (some 15) false none (.bin .lss (.t 14) (.c (.i .i64 0))),
 .l (some 16) true none (.mv (.t 15)),
 .l (some 17) false (some (16, false)) (.mv (.t 1)),
 .l (some 18) false (some (16, false)) (.bin .gtr (.t 17) (.c (.i .i64 65536))),
 .l (some 19) false none (.pick (.t 16) (.c (.tt)) (.t 18))])
 (.cond (.t 19)
 (.seq
 (.reg [.l (some 4) false none (.mv (.c (.s ⟨#[]⟩))),
 .l (some 5) false none (.mv (.c (.i .i64 2)))])
 .ret)
 .skip))
 (.seq
 (.reg [.l (some 20) false none (.mv (.t 1)),
 .h (some 21) none (.call (.c (.fn (.func 67) [] [])) [.t 20]),
 .l (some 6) false none (.mv (.t 21))])
 (.seq
 (.reg [.h (some 7) none (.alloc [.ff, .ff, .ff, .ff, .ff, .ff])])
 (.seq
 (.reg [.l (some 8) false none (.mv (.c (.nils)))])
 (.seq
 (.reg [.l (some 9) false none (.mv (.c (.nils)))])
 (.seq
 (.seq
 (.reg [.l (some 22) false none (.mv (.t 0)),
 .l (some 23) false none (.len false (.t 22)),
 .l (some 24) false none (.mv (.c (.i .i64 0)))])
 (.block 0
 (.loop
 (.seq
 (.reg [.l (some 25) false none (.bin .lss (.t 24) (.t 23))])
 (.seq
 (.cond (.t 25)
 .skip
 (.exit 0))
 (.seq
 (.block 1
 (.seq
 (.reg [.l (some 26) false none (.iaddr 2 (.t 22) (.t 24)),
 .l (some 27) false none (.load 2 true (.t 26)),
 .h (some 11) none (.alloc [.i .i64 0, .s ⟨#[]⟩]),
 .h none none (.store 2 (.t 11) (.t 27))])
 (.block 2
 (.seq
 (.reg [.l (some 44) false none (.mv (.t 8)),
 .l (some 45) false none (.len false (.t 44)),
 .l (some 46) false none (.bin .eql (.t 45) (.c (.i .i64 3))),
 .l (some 43) false none (.mv (.t 46))])
 (.cond (.t 43)
 .skip
 (.seq
 (.reg [.l (some 48) false none (.faddr 0 (.t 11)),
 .l (some 49) false none (.load 1 false (.t 48)),
 .l (some 50) false none (.bin .lss (.t 49) (.c (.i .i64 1))),
 .l (some 51) true none (.mv (.t 50)),
 .l (some 52) false (some (51, false)) (.faddr 0 (.t 11)),
 .l (some 53) false (some (51, false)) (.load 1 false (.t 52)),
 .l (some 54) false (some (51, false)) (.bin .gtr (.t 53) (.c (.i .i64 5))),
 .l (some 55) false none (.pick (.t 51) (.c (.tt)) (.t 54)),
 .l (some 47) false none (.mv (.t 55))])
 (.cond (.t 47)
 (.seq
 (.reg [.l (some 4) false none (.mv (.c (.s ⟨#[]⟩))),
 .l (some 5) false none (.mv (.c (.i .i64 1)))])
 .ret)
 (.seq
 (.reg [.l (some 57) false none (.faddr 0 (.t 11)),
 .l (some 58) false none (.load 1 false (.t 57)),
 .l (some 59) false none (.iaddrA 6 1 (.t 7) (.t 58)),
 .l (some 60) false none (.load 1 false (.t 59)),
 .l (some 56) false none (.mv (.t 60))])
 (.cond (.t 56)
 .skip
 (.seq
 (.reg [.l (some 62) false none (.faddr 1 (.t 11)),
 .l (some 63) false none (.load 1 false (.t 62)),
 .l (some 64) false none (.len true (.t 63)),
 .l (some 65) false none (.mv (.t 6)),
 .l (some 66) false none (.bin .neq (.t 64) (.t 65)),
 .l (some 61) false none (.mv (.t 66))])
 (.cond (.t 61)
 (.seq
 (.reg [.l (some 4) false none (.mv (.c (.s ⟨#[]⟩))),
 .l (some 5) false none (.mv (.c (.i .i64 3)))])
 .ret)
 (.seq
 (.reg [.l (some 28) false none (.faddr 0 (.t 11)),
 .l (some 29) false none (.load 1 false (.t 28)),
 .l (some 30) false none (.iaddrA 6 1 (.t 7) (.t 29)),
 .h none none (.store 1 (.t 30) (.c (.tt)))])
 (.seq
 (.reg [.l (some 31) false none (.mv (.t 8)),
 .l (some 32) false none (.faddr 0 (.t 11)),
 .l (some 33) false none (.load 1 false (.t 32)),
 .l (some 34) false none (.conv .u8 (.t 33)),
 .h (some 35) none (.bslice 1 1 [.i .u8 0] [(0, 1, .t 34)]),
 .h (some 36) none (.app 1 1 (.t 31) (.t 35)),
 .l (some 8) false none (.mv (.t 36))])
 (.reg [.l (some 37) false none (.mv (.t 9)),
 .l (some 38) false none (.faddr 1 (.t 11)),
 .l (some 39) false none (.load 1 false (.t 38)),
 .h (some 40) none (.s2b (.t 39)),
 .h (some 41) none (.bslice 1 1 [.nils] [(0, 1, .t 40)]),
 .h (some 42) none (.app 1 24 (.t 37) (.t 41)),
 .l (some 9) false none (.mv (.t 42))]))))))))))))))
 (.reg [.l (some 67) false none (.bin .add (.t 24) (.c (.i .i64 1))),
 .l (some 24) false none (.mv (.t 67))])))))))
 (.seq
 (.seq
 (.reg [.l (some 68) false none (.mv (.t 8)),
 .l (some 69) false none (.len false (.t 68)),
 .l (some 70) false none (.bin .lss (.t 69) (.c (.i .i64 3)))])
 (.cond (.t 70)
 (.seq
 (.reg [.l (some 4) false none (.mv (.c (.s ⟨#[]⟩))),
 .l (some 5) false none (.mv (.c (.i .i64 4)))])
 .ret)
 .skip))
 (.seq
 (.reg [.l (some 12) false none (.mv (.c (.nils)))])
 (.seq
 (.seq
 (.reg [.l (some 71) false none (.mv (.c (.i .i64 0)))])
 (.block 3
 (.loop
 (.seq
 (.reg [.l (some 72) false none (.bin .lss (.t 71) (.c (.i .i64 3)))])
 (.seq
 (.cond (.t 72)
 .skip
 (.exit 3))
 (.seq
 (.block 4
 (.seq
 (.reg [.l (some 73) false none (.mv (.t 71)),
 .l (some 13) false none (.mv (.t 73))])
 (.reg [.l (some 74) false none (.mv (.t 12)),
 .l (some 75) false none (.mv (.t 8)),
 .l (some 76) false none (.mv (.t 9)),
 .l (some 77) false none (.mv (.t 13)),
 .l (some 78) false none (.bin .add (.t 77) (.c (.i .i64 1))),
 .l (some 79) false none (.conv .u8 (.t 78)),
 .h (some 80) none (.call (.c (.fn (.func 68) [] [])) [.t 75, .t 76, .t 79]),
 .h (some 81) none (.app 1 1 (.t 74) (.t 80)),
 .l (some 12) false none (.mv (.t 81))])))
 (.reg [.l (some 82) false none (.bin .add (.t 71) (.c (.i .i64 1))),
 .l (some 71) false none (.mv (.t 82))])))))))
 (.seq
 (.reg [.l (some 83) false none (.mv (.t 12)),
 .l (some 84) false none (.mv (.t 1)),
 .l (some 85) false none (.slc 1 (.t 83) none (some (.t 84))),
 .l (some 86) false none (.b2s (.t 85)),
 .l (some 4) false none (.mv (.t 86)),
 .l (some 5) false none (.mv (.c (.i .i64 0)))])
 .ret)))))))))))
def r83 : List MR := [.t 4, .t 5]
theorem is83 : FnIs Tryz.prog 83 87 m83 r83 := ⟨by kernel_rfl, Tryz.f83, _, Tryz.func83, rfl, by decide, rfl, by kernel_rfl, by kernel_rfl⟩

def m105 : MC :=
 (.seq
 (.reg [.h (some 3) none (.box (.t 0)),
 .h (some 4) none (.box (.t 1)),
 .h (some 5) none (.box (.t 2)),
 .l (some 6) false none (.mv (.c (.raw .nilFunc)))])
 (.seq
 (.reg [.l (some 7) false none (.mkfn (.func 144) [] [.t 4, .t 3, .t 5]),
 .l (some 6) false none (.mv (.t 7))])
 .ret))
def r105 : List MR := [.t 6]
theorem is105 : FnIs Tryz.prog 105 8 m105 r105 := ⟨by kernel_rfl, Tryz.f105, _, Tryz.func105, rfl, by decide, rfl, by kernel_rfl, by kernel_rfl⟩

def m110 : MC :=
 (.seq
 (.reg [.h (some 4) none (.box (.t 0)),
 .h (some 8) none (.alloc [.i .u32 0, .i .u32 0, .i .u32 0, .i .u32 0, .i .u32 0, .i .u32 0, .i .u32 0, .i .u32 0])])
 (.seq
 (.reg [.h (some 9) none (.alloc [.i .u32 0, .i .u32 0, .i .u32 0, .i .u32 0, .i .u32 0, .i .u32 0, .i .u32 0, .i .u32 0, .i .u32 0, .i .u32 0, .i .u32 0, .i .u32 0, .i .u32 0, .i .u32 0, .i .u32 0, .i .u32 0])])
 (.seq
 (.seq
 (.reg [.l (some 17) false none (.mv (.c (.i .i64 0)))])
 (.block 0
 (.loop
 (.seq
 (.reg [.l (some 18) false none (.bin .lss (.t 17) (.c (.i .i64 16)))])
 (.seq
 (.cond (.t 18)
 .skip
 (.exit 0))
 (.seq
 (.block 1
 (.seq
 (.reg [.l (some 19) false none (.mv (.t 17)),
 .l (some 10) false none (.mv (.t 19))])
 (.reg [.l (some 20) false none (.mv (.t 10)),
 .l (some 21) false none (.mv (.t 1)),
 .l (some 22) false none (.mv (.t 10)),
 .l (some 23) false none (.bin .mul (.c (.i .i64 4)) (.t 22)),
 .l (some 24) false none (.slcS (.t 21) (some (.t 23)) none),
 .h (some 25) none (.call (.c (.fn (.func 153) [] [])) [.t 24]),
 .l (some 26) false none (.iaddrA 16 1 (.t 9) (.t 20)),
 .h none none (.store 1 (.t 26) (.t 25))])))
 (.reg [.l (some 27) false none (.bin .add (.t 17) (.c (.i .i64 1))),
 .l (some 17) false none (.mv (.t 27))])))))))
 (.seq
 (.reg [.h (some 11) none (.alloc [.i .u32 0, .i .u32 0, .i .u32 0, .i .u32 0, .i .u32 0, .i .u32 0, .i .u32 0, .i .u32 0, .i .u32 0, .i .u32 0, .i .u32 0, .i .u32 0, .i .u32 0, .i .u32 0, .i .u32 0, .i .u32 0])])
 (.seq
 (.reg [.h (some 28) none (.call (.c (.fn (.func 76) [] [])) []),
 .h (some 12) none (.alloc [.i .u32 0, .i .u32 0, .i .u32 0, .i .u32 0, .i .u32 0, .i .u32 0, .i .u32 0, .i .u32 0]),
 .h none none (.store 8 (.t 12) (.t 28))])
 (.seq
 (.dreg (.light 0 (.l (some 29) false none (.slcA 16 1 (.t 11) none (some (.c (.i .i64 8))))) <|
 (.light 1 (.l (some 30) false none (.slcA 8 1 (.t 4) none none)) <|
 (.heavy 2 [] (.h (some 31) none (.copy 1 (.t 29) (.t 30)))
 .fin
 .nil))))
 (.seq
 (.dreg (.light 0 (.l (some 32) false none (.slcA 16 1 (.t 11) (some (.c (.i .i64 8))) none)) <|
 (.light 1 (.l (some 33) false none (.slcA 8 1 (.t 12) none none)) <|
 (.heavy 2 [] (.h (some 34) none (.copy 1 (.t 32) (.t 33)))
 .fin
 .nil))))
 (.seq
 (.reg [.l (some 35) false none (.iaddrA 16 1 (.t 11) (.c (.i .i64 12))),
 .l (some 36) false none (.load 1 false (.t 35)),
 .l (some 37) false none (.mv (.t 2)),
 .l (some 38) false none (.conv .u32 (.t 37)),
 .l (some 39) false none (.bin .xor (.t 36) (.t 38)),
 .l (some 40) false none (.iaddrA 16 1 (.t 11) (.c (.i .i64 12))),
 .h none none (.store 1 (.t 40) (.t 39))])
 (.seq
 (.reg [.l (some 41) false none (.iaddrA 16 1 (.t 11) (.c (.i .i64 13))),
 .l (some 42) false none (.load 1 false (.t 41)),
 .l (some 43) false none (.mv (.t 2)),
 .l (some 44) false none (.bin .shr (.t 43) (.c (.i .u64 32))),
 .l (some 45) false none (.conv .u32 (.t 44)),
 .l (some 46) false none (.bin .xor (.t 42) (.t 45)),
 .l (some 47) false none (.iaddrA 16 1 (.t 11) (.c (.i .i64 13))),
 .h none none (.store 1 (.t 47) (.t 46))])
 (.seq
 (.seq
 (.reg [.l (some 48) false none (.mv (.t 3))])
 (.cond (.t 48)
 (.reg [.l (some 49) false none (.iaddrA 16 1 (.t 11) (.c (.i .i64 14))),
 .l (some 50) false none (.load 1 false (.t 49)),
 .l (some 51) false none (.un .xor (.t 50)),
 .l (some 52) false none (.iaddrA 16 1 (.t 11) (.c (.i .i64 14))),
 .h none none (.store 1 (.t 52) (.t 51))])
 .skip))
 (.seq
 (.seq
 (.reg [.l (some 53) false none (.mv (.c (.i .i64 0)))])
 (.block 2
 (.loop
 (.seq
 (.reg [.l (some 54) false none (.bin .lss (.t 53) (.c (.i .i64 10)))])
 (.seq
 (.cond (.t 54)
 .skip
 (.exit 2))
 (.seq
 (.block 3
 (.seq
 (.reg [.l (some 55) false none (.mv (.t 53)),
 .l (some 13) false none (.mv (.t 55))])
 (.seq
 (.seq
 (.reg [.l (some 56) false none (.mv (.c (.i .i64 0)))])
 (.block 4
 (.loop
 (.seq
 (.reg [.l (some 57) false none (.bin .lss (.t 56) (.c (.i .i64 4)))])
 (.seq
 (.cond (.t 57)
 .skip
 (.exit 4))
 (.seq
 (.block 5
 (.seq
 (.reg [.l (some 58) false none (.mv (.t 56)),
 .l (some 14) false none (.mv (.t 58))])
 (.dreg (.light 0 (.l (some 59) false none (.mv (.t 14))) <|
 (.light 1 (.l (some 60) false none (.mv (.t 14))) <|
 (.light 2 (.l (some 61) false none (.bin .add (.c (.i .i64 4)) (.t 60))) <|
 (.light 3 (.l (some 62) false none (.mv (.t 14))) <|
 (.light 4 (.l (some 63) false none (.bin .add (.c (.i .i64 8)) (.t 62))) <|
 (.light 5 (.l (some 64) false none (.mv (.t 14))) <|
 (.light 6 (.l (some 65) false none (.bin .add (.c (.i .i64 12)) (.t 64))) <|
 (.light 7 (.l (some 66) false none (.mv (.t 13))) <|
 (.light 8 (.l (some 67) false none (.mv (.t 14))) <|
 (.light 9 (.l (some 68) false none (.bin .mul (.c (.i .i64 2)) (.t 67))) <|
 (.light 13 (.l (some 72) false none (.mv (.t 13))) <|
 (.light 14 (.l (some 73) false none (.mv (.t 14))) <|
 (.light 15 (.l (some 74) false none (.bin .mul (.c (.i .i64 2)) (.t 73))) <|
 (.light 16 (.l (some 75) false none (.bin .add (.t 74) (.c (.i .i64 1)))) <|
 (.heavy 10 [0, 1, 2, 3, 4, 5, 6, 13, 14, 15, 16] (.h (some 69) none (.call (.c (.fn (.func 155) [] [])) [.t 66, .t 68]))
 (.light 11 (.l (some 70) false none (.iaddrA 16 1 (.t 9) (.t 69))) <|
 (.light 12 (.l (some 71) false none (.load 1 false (.t 70))) <|
 (.heavy 17 [0, 1, 2, 3, 4, 5, 6, 11, 12] (.h (some 76) none (.call (.c (.fn (.func 155) [] [])) [.t 72, .t 75]))
 (.light 18 (.l (some 77) false none (.iaddrA 16 1 (.t 9) (.t 76))) <|
 (.light 19 (.l (some 78) false none (.load 1 false (.t 77))) <|
 (.heavy 20 [] (.h (some 79) none (.call (.c (.fn (.func 154) [] [])) [.t 11, .t 59, .t 61, .t 63, .t 65, .t 71, .t 78]))
 .fin
 .nil)))
 .nil)))
 .nil))))))))))))))))))
 (.reg [.l (some 80) false none (.bin .add (.t 56) (.c (.i .i64 1))),
 .l (some 56) false none (.mv (.t 80))])))))))
 (.seq
 (.reg [.l (some 81) false none (.mv (.c (.i .i64 0)))])
 (.block 6
 (.loop
 (.seq
 (.reg [.l (some 82) false none (.bin .lss (.t 81) (.c (.i .i64 4)))])
 (.seq
 (.cond (.t 82)
 .skip
 (.exit 6))
 (.seq
 (.block 7
 (.seq
 (.reg [.l (some 83) false none (.mv (.t 81)),
 .l (some 15) false none (.mv (.t 83))])
 (.dreg (.light 0 (.l (some 84) false none (.mv (.t 15))) <|
 (.light 1 (.l (some 85) false none (.mv (.t 15))) <|
 (.light 2 (.l (some 86) false none (.bin .add (.t 85) (.c (.i .i64 1)))) <|
 (.light 3 (.l (some 87) false none (.bin .rem (.t 86) (.c (.i .i64 4)))) <|
 (.light 4 (.l (some 88) false none (.bin .add (.c (.i .i64 4)) (.t 87))) <|
 (.light 5 (.l (some 89) false none (.mv (.t 15))) <|
 (.light 6 (.l (some 90) false none (.bin .add (.t 89) (.c (.i .i64 2)))) <|
 (.light 7 (.l (some 91) false none (.bin .rem (.t 90) (.c (.i .i64 4)))) <|
 (.light 8 (.l (some 92) false none (.bin .add (.c (.i .i64 8)) (.t 91))) <|
 (.light 9 (.l (some 93) false none (.mv (.t 15))) <|
 (.light 10 (.l (some 94) false none (.bin .add (.t 93) (.c (.i .i64 3)))) <|
 (.light 11 (.l (some 95) false none (.bin .rem (.t 94) (.c (.i .i64 4)))) <|
 (.light 12 (.l (some 96) false none (.bin .add (.c (.i .i64 12)) (.t 95))) <|
 (.light 13 (.l (some 97) false none (.mv (.t 13))) <|
 (.light 14 (.l (some 98) false none (.mv (.t 15))) <|
 (.light 15 (.l (some 99) false none (.bin .mul (.c (.i .i64 2)) (.t 98))) <|
 (.light 16 (.l (some 100) false none (.bin .add (.c (.i .i64 8)) (.t 99))) <|
 (.light 20 (.l (some 104) false none (.mv (.t 13))) <|
 (.light 21 (.l (some 105) false none (.mv (.t 15))) <|
 (.light 22 (.l (some 106) false none (.bin .mul (.c (.i .i64 2)) (.t 105))) <|
 (.light 23 (.l (some 107) false none (.bin .add (.c (.i .i64 9)) (.t 106))) <|
 (.heavy 17 [0, 1, 2, 3, 4, 5, 6, 7, 8, 9, 10, 11, 12, 20, 21, 22, 23] (.h (some 101) none (.call (.c (.fn (.func 155) [] [])) [.t 97, .t 100]))
 (.light 18 (.l (some 102) false none (.iaddrA 16 1 (.t 9) (.t 101))) <|
 (.light 19 (.l (some 103) false none (.load 1 false (.t 102))) <|
 (.heavy 24 [0, 1, 2, 3, 4, 5, 6, 7, 8, 9, 10, 11, 12, 18, 19] (.h (some 108) none (.call (.c (.fn (.func 155) [] [])) [.t 104, .t 107]))
 (.light 25 (.l (some 109) false none (.iaddrA 16 1 (.t 9) (.t 108))) <|
 (.light 26 (.l (some 110) false none (.load 1 false (.t 109))) <|
 (.heavy 27 [] (.h (some 111) none (.call (.c (.fn (.func 154) [] [])) [.t 11, .t 84, .t 88, .t 92, .t 96, .t 103, .t 110]))
 .fin
 .nil)))
 .nil)))
 .nil)))))))))))))))))))))))))
 (.reg [.l (some 112) false none (.bin .add (.t 81) (.c (.i .i64 1))),
 .l (some 81) false none (.mv (.t 112))]))))))))))
 (.reg [.l (some 113) false none (.bin .add (.t 53) (.c (.i .i64 1))),
 .l (some 53) false none (.mv (.t 113))])))))))
 (.seq
 (.seq
 (.reg [.l (some 114) false none (.mv (.c (.i .i64 0)))])
 (.block 8
 (.loop
 (.seq
 (.reg [.l (some 115) false none (.bin .lss (.t 114) (.c (.i .i64 8)))])
 (.seq
 (.cond (.t 115)
 .skip
 (.exit 8))
 (.seq
 (.block 9
 (.seq
 (.reg [.l (some 116) false none (.mv (.t 114)),
 .l (some 16) false none (.mv (.t 116))])
 (.dreg (.light 0 (.l (some 117) false none (.mv (.t 16))) <|
 (.light 1 (.l (some 118) false none (.iaddrA 8 1 (.t 4) (.t 117))) <|
 (.light 2 (.l (some 119) false none (.load 1 false (.t 118))) <|
 (.light 3 (.l (some 120) false none (.mv (.t 16))) <|
 (.light 4 (.l (some 121) false none (.iaddrA 16 1 (.t 11) (.t 120))) <|
 (.light 5 (.l (some 122) false none (.load 1 false (.t 121))) <|
 (.light 6 (.l (some 123) false none (.mv (.t 16))) <|
 (.light 7 (.l (some 124) false none (.bin .add (.t 123) (.c (.i .i64 8)))) <|
 (.light 8 (.l (some 125) false none (.iaddrA 16 1 (.t 11) (.t 124))) <|
 (.light 9 (.l (some 126) false none (.load 1 false (.t 125))) <|
 (.light 10 (.l (some 127) false none (.bin .xor (.t 122) (.t 126))) <|
 (.light 11 (.l (some 128) false none (.bin .xor (.t 119) (.t 127))) <|
 (.light 12 (.l (some 129) false none (.iaddrA 8 1 (.t 4) (.t 117))) <|
 (.heavy 13 [] (.h none none (.store 1 (.t 129) (.t 128)))
 .fin
 .nil)))))))))))))))))
 (.reg [.l (some 130) false none (.bin .add (.t 114) (.c (.i .i64 1))),
 .l (some 114) false none (.mv (.t 130))])))))))
 (.seq
 (.reg [.l (some 131) false none (.load 8 true (.t 4)),
 .h none none (.store 8 (.t 8) (.t 131))])
 .ret)))))))))))))
def r110 : List MR := [.cell 8 8 true]
theorem is110 : FnIs Tryz.prog 110 132 m110 r110 := ⟨by kernel_rfl, Tryz.f110, _, Tryz.func110, rfl, by decide, rfl, by kernel_rfl, by kernel_rfl⟩

def m113 : MC :=
 (.seq
 (.reg [.l (some 2) false none (.mv (.c (.i .i64 0))),
 .l (some 3) false none (.mv (.c (.i .i64 0))),
 .l (some 4) false none (.mv (.c (.i .i64 0)))])
 (.seq
 (.seq
 (.reg [.l (some 7) false none (.mv (.t 0)),
 .l (some 8) false none (.len true (.t 7)),
 .l (some 9) false none (.mv (.c (.i .i64 0)))])
 (.block 0
 (.loop
 (.seq
 (.reg [.l (some 10) false none (.bin .lss (.t 9) (.t 8))])
 (.seq
 (.cond (.t 10)
 .skip
 (.exit 0))
 (.seq
 (.block 1
 (.seq
 (.reg [.l (some 11) false none (.mv (.t 9)),
 .l (some 5) false none (.mv (.t 11))])
 (.seq
 (.reg [.l (some 12) false none (.mv (.t 0)),
 .l (some 13) false none (.mv (.t 5)),
 .l (some 14) false none (.idxS (.t 12) (.t 13)),
 .l (some 15) false none (.conv .i64 (.t 14)),
 .l (some 6) false none (.mv (.t 15))])
 (.seq
 (.block 2
 (.seq
 (.seq
 (.reg [.l (some 17) false none (.mv (.t 5)),
 .l (some 18) false none (.bin .eql (.t 17) (.c (.i .i64 3))),
 .l (some 19) true none (.mv (.t 18)),
 .l (some 20) false (some (19, true)) (.mv (.t 6)),
 .l (some 21) false (some (19, true)) (.bin .geq (.t 20) (.c (.i .i64 128))),
 .l (some 22) false none (.pick (.t 19) (.t 21) (.c (.ff))),
 .l (some 16) false none (.mv (.t 22))])
 (.cond (.t 16)
 .skip
 (.reg [.l (some 23) false none (.mv (.t 5)),
 .l (some 24) false none (.bin .gtr (.t 23) (.c (.i .i64 0))),
 .l (some 25) true none (.mv (.t 24)),
 .l (some 26) false (some (25, true)) (.mv (.t 6)),
 .l (some 27) false (some (25, true)) (.bin .eql (.t 26) (.c (.i .i64 0))),
 .l (some 28) false none (.pick (.t 25) (.t 27) (.c (.ff))),
 .l (some 16) false none (.mv (.t 28))])))
 (.cond (.t 16)
 (.seq
 (.reg [.l (some 2) false none (.mv (.c (.i .i64 0))),
 .l (some 3) false none (.mv (.c (.i .i64 0))),
 .l (some 4) false none (.mv (.c (.i .i64 3)))])
 .ret)
 .skip)))
 (.seq
 (.reg [.l (some 29) false none (.mv (.t 2)),
 .l (some 30) false none (.mv (.t 6)),
 .l (some 31) false none (.bin .rem (.t 30) (.c (.i .i64 128))),
 .l (some 32) false none (.mv (.t 5)),
 .l (some 33) false none (.bin .mul (.c (.i .i64 7)) (.t 32)),
 .l (some 34) false none (.bin .shl (.t 31) (.t 33)),
 .l (some 35) false none (.bin .add (.t 29) (.t 34)),
 .l (some 2) false none (.mv (.t 35))])
 (.seq
 (.reg [.l (some 36) false none (.mv (.t 6)),
 .l (some 37) false none (.bin .lss (.t 36) (.c (.i .i64 128)))])
 (.cond (.t 37)
 (.seq
 (.reg [.l (some 38) false none (.mv (.t 2)),
 .l (some 39) false none (.mv (.t 5)),
 .l (some 40) false none (.bin .add (.t 39) (.c (.i .i64 1))),
 .l (some 2) false none (.mv (.t 38)),
 .l (some 3) false none (.mv (.t 40)),
 .l (some 4) false none (.mv (.c (.i .i64 0)))])
 .ret)
 .skip)))))))
 (.reg [.l (some 41) false none (.bin .add (.t 9) (.c (.i .i64 1))),
 .l (some 9) false none (.mv (.t 41))])))))))
 (.seq
 (.reg [.l (some 2) false none (.mv (.c (.i .i64 0))),
 .l (some 3) false none (.mv (.c (.i .i64 0))),
 .l (some 4) false none (.mv (.c (.i .i64 4)))])
 .ret)))
def r113 : List MR := [.t 2, .t 3, .t 4]
theorem is113 : FnIs Tryz.prog 113 42 m113 r113 := ⟨by kernel_rfl, Tryz.f113, _, Tryz.func113, rfl, by decide, rfl, by kernel_rfl, by kernel_rfl⟩

def m144 : YC :=
 (.seq
 (.reg [.l (some 10) false none (.load 1 false (.t 1)),
 .l (some 11) false none (.len false (.t 10)),
 .h (some 12) none (.mks 1 1 [.i .u8 0] (.t 11) (.t 11)),
 .l (some 5) false none (.mv (.t 12))])
 (.seq
 (.reg [.l (some 13) false none (.load 1 false (.t 1)),
 .l (some 14) false none (.iaddr 1 (.t 13) (.c (.i .i64 0))),
 .l (some 15) false none (.load 1 false (.t 14)),
 .l (some 16) false none (.len false (.t 15)),
 .l (some 17) false none (.mv (.c (.i .i64 0)))])
 (.block 0
 (.loop
 (.seq
 (.reg [.l (some 18) false none (.bin .lss (.t 17) (.t 16))])
 (.seq
 (.cond (.t 18)
 .skip
 (.exit 0))
 (.seq
 (.block 1
 (.seq
 (.reg [.l (some 19) false none (.mv (.t 17)),
 .l (some 6) false none (.mv (.t 19))])
 (.seq
 (.seq
 (.reg [.l (some 20) false none (.load 1 false (.t 1)),
 .l (some 21) false none (.len false (.t 20)),
 .l (some 22) false none (.mv (.c (.i .i64 0)))])
 (.block 2
 (.loop
 (.seq
 (.reg [.l (some 23) false none (.bin .lss (.t 22) (.t 21))])
 (.seq
 (.cond (.t 23)
 .skip
 (.exit 2))
 (.seq
 (.block 3
 (.seq
 (.reg [.l (some 24) false none (.mv (.t 22)),
 .l (some 7) false none (.mv (.t 24))])
 (.reg [.l (some 25) false none (.mv (.t 5)),
 .l (some 26) false none (.mv (.t 7)),
 .l (some 27) false none (.load 1 false (.t 1)),
 .l (some 28) false none (.mv (.t 7)),
 .l (some 29) false none (.iaddr 1 (.t 27) (.t 28)),
 .l (some 30) false none (.load 1 false (.t 29)),
 .l (some 31) false none (.mv (.t 6)),
 .l (some 32) false none (.iaddr 1 (.t 30) (.t 31)),
 .l (some 33) false none (.load 1 false (.t 32)),
 .l (some 34) false none (.iaddr 1 (.t 25) (.t 26)),
 .h none none (.store 1 (.t 34) (.t 33))])))
 (.reg [.l (some 35) false none (.bin .add (.t 22) (.c (.i .i64 1))),
 .l (some 22) false none (.mv (.t 35))])))))))
 (.seq
 (.reg [.l (some 37) false none (.load 1 false (.t 2)),
 .l (some 38) false none (.mv (.t 5)),
 .l (some 39) false none (.load 1 false (.t 3)),
 .h (some 40) none (.call (.c (.fn (.func 145) [] [])) [.t 37, .t 38, .t 39]),
 .l (some 36) false none (.mv (.t 40)),
 .l (some 41) false none (.ext (.t 36) 0),
 .l (some 42) false none (.ext (.t 36) 1),
 .l (some 8) false none (.mv (.t 41)),
 .l (some 9) false none (.mv (.t 42))])
 (.seq
 (.reg [.l (some 43) false none (.mv (.t 0)),
 .l (some 44) false none (.mv (.t 6)),
 .l (some 45) false none (.mv (.t 8)),
 .h (some 46) none (.call (.t 43) [.t 44, .t 45]),
 .l (some 47) false none (.un .not (.t 46))])
 (.cond (.t 47)
 .ret
 .skip))))))
 (.reg [.l (some 48) false none (.bin .add (.t 17) (.c (.i .i64 1))),
 .l (some 17) false none (.mv (.t 48))]))))))))
def r144 : List MR := []
theorem is144 : FnIsY Tryz.prog 144 49 m144 r144 := ⟨Tryz.f144, _, Tryz.func144, rfl, by decide, rfl, by kernel_rfl, by kernel_rfl⟩

def m145 : MC :=
 (.seq
 (.reg [.l (some 6) false none (.mv (.c (.i .u8 0))),
 .l (some 7) false none (.mv (.c (.ff)))])
 (.seq
 (.seq
 (.reg [.l (some 14) false none (.mv (.t 0)),
 .l (some 15) false none (.len false (.t 14)),
 .l (some 16) false none (.mv (.t 1)),
 .l (some 17) false none (.len false (.t 16)),
 .l (some 18) false none (.bin .neq (.t 15) (.t 17))])
 (.cond (.t 18)
 (.seq
 (.reg [.l (some 6) false none (.mv (.c (.i .u8 0))),
 .l (some 7) false none (.mv (.c (.ff)))])
 .ret)
 .skip))
 (.seq
 (.reg [.l (some 8) false none (.mv (.c (.i .u8 0)))])
 (.seq
 (.seq
 (.reg [.l (some 19) false none (.mv (.t 0)),
 .l (some 20) false none (.len false (.t 19)),
 .l (some 21) false none (.mv (.c (.i .i64 0)))])
 (.block 0
 (.loop
 (.seq
 (.reg [.l (some 22) false none (.bin .lss (.t 21) (.t 20))])
 (.seq
 (.cond (.t 22)
 .skip
 (.exit 0))
 (.seq
 (.block 1
 (.seq
 (.reg [.l (some 23) false none (.mv (.t 21)),
 .l (some 24) false none (.iaddr 1 (.t 19) (.t 21)),
 .l (some 25) false none (.load 1 false (.t 24)),
 .l (some 9) false none (.mv (.t 23)),
 .l (some 10) false none (.mv (.t 25))])
 (.seq
 (.reg [.l (some 26) false none (.mv (.t 1)),
 .l (some 27) false none (.mv (.t 9)),
 .l (some 28) false none (.iaddr 1 (.t 26) (.t 27)),
 .l (some 29) false none (.load 1 false (.t 28)),
 .l (some 11) false none (.mv (.t 29))])
 (.seq
 (.seq
 (.reg [.l (some 30) false none (.mv (.t 0)),
 .l (some 31) false none (.len false (.t 30)),
 .l (some 32) false none (.mv (.c (.i .i64 0)))])
 (.block 2
 (.loop
 (.seq
 (.reg [.l (some 33) false none (.bin .lss (.t 32) (.t 31))])
 (.seq
 (.cond (.t 33)
 .skip
 (.exit 2))
 (.seq
 (.block 3
 (.seq
 (.reg [.l (some 34) false none (.mv (.t 32)),
 .l (some 35) false none (.iaddr 1 (.t 30) (.t 32)),
 .l (some 36) false none (.load 1 false (.t 35)),
 .l (some 12) false none (.mv (.t 34)),
 .l (some 13) false none (.mv (.t 36))])
 (.seq
 (.seq
 (.reg [.l (some 37) false none (.mv (.t 12)),
 .l (some 38) false none (.mv (.t 9)),
 .l (some 39) false none (.bin .eql (.t 37) (.t 38))])
 (.cond (.t 39)
 (.exit 3)
 .skip))
 (.seq
 (.seq
 (.reg [.l (some 40) false none (.mv (.t 13)),
 .l (some 41) false none (.mv (.t 10)),
 .l (some 42) false none (.bin .eql (.t 40) (.t 41))])
 (.cond (.t 42)
 (.seq
 (.reg [.l (some 6) false none (.mv (.c (.i .u8 0))),
 .l (some 7) false none (.mv (.c (.ff)))])
 .ret)
 .skip))
 (.reg [.l (some 43) false none (.mv (.t 11)),
 .l (some 44) false none (.mv (.t 2)),
 .l (some 45) false none (.mv (.t 13)),
 .l (some 46) false none (.bin .xor (.t 44) (.t 45)),
 .l (some 47) false none (.mv (.t 10)),
 .l (some 48) false none (.mv (.t 13)),
 .l (some 49) false none (.bin .xor (.t 47) (.t 48)),
 .h (some 50) none (.call (.c (.fn (.func 173) [] [])) [.t 49]),
 .h (some 51) none (.call (.c (.fn (.func 172) [] [])) [.t 46, .t 50]),
 .h (some 52) none (.call (.c (.fn (.func 172) [] [])) [.t 43, .t 51]),
 .l (some 11) false none (.mv (.t 52))])))))
 (.reg [.l (some 53) false none (.bin .add (.t 32) (.c (.i .i64 1))),
 .l (some 32) false none (.mv (.t 53))])))))))
 (.reg [.l (some 54) false none (.mv (.t 8)),
 .l (some 55) false none (.mv (.t 11)),
 .l (some 56) false none (.bin .xor (.t 54) (.t 55)),
 .l (some 8) false none (.mv (.t 56))])))))
 (.reg [.l (some 57) false none (.bin .add (.t 21) (.c (.i .i64 1))),
 .l (some 21) false none (.mv (.t 57))])))))))
 (.seq
 (.reg [.l (some 58) false none (.mv (.t 8)),
 .l (some 6) false none (.mv (.t 58)),
 .l (some 7) false none (.mv (.c (.tt)))])
 .ret)))))
def r145 : List MR := [.t 6, .t 7]
theorem is145 : FnIs Tryz.prog 145 59 m145 r145 := ⟨by kernel_rfl, Tryz.f145, _, Tryz.func145, rfl, by decide, rfl, by kernel_rfl, by kernel_rfl⟩

def m153 : MC :=
 (.seq
 (.reg [.l (some 2) false none (.mv (.c (.i .u32 0)))])
 (.seq
 (.dreg (.light 0 (.l (some 3) false none (.mv (.t 0))) <|
 (.light 1 (.l (some 4) false none (.idxS (.t 3) (.c (.i .i64 0)))) <|
 (.light 2 (.l (some 5) false none (.conv .u32 (.t 4))) <|
 (.light 3 (.l (some 6) false none (.mv (.t 0))) <|
 (.light 4 (.l (some 7) false none (.idxS (.t 6) (.c (.i .i64 1)))) <|
 (.light 5 (.l (some 8) false none (.conv .u32 (.t 7))) <|
 (.light 6 (.l (some 9) false none (.bin .shl (.t 8) (.c (.i .u64 8)))) <|
 (.light 7 (.l (some 10) false none (.bin .or (.t 5) (.t 9))) <|
 (.light 8 (.l (some 11) false none (.mv (.t 0))) <|
 (.light 9 (.l (some 12) false none (.idxS (.t 11) (.c (.i .i64 2)))) <|
 (.light 10 (.l (some 13) false none (.conv .u32 (.t 12))) <|
 (.light 11 (.l (some 14) false none (.bin .shl (.t 13) (.c (.i .u64 16)))) <|
 (.light 12 (.l (some 15) false none (.bin .or (.t 10) (.t 14))) <|
 (.light 13 (.l (some 16) false none (.mv (.t 0))) <|
 (.light 14 (.l (some 17) false none (.idxS (.t 16) (.c (.i .i64 3)))) <|
 (.light 15 (.l (some 18) false none (.conv .u32 (.t 17))) <|
 (.light 16 (.l (some 19) false none (.bin .shl (.t 18) (.c (.i .u64 24)))) <|
 (.light 17 (.l (some 20) false none (.bin .or (.t 15) (.t 19))) <|
 (.light 18 (.l (some 2) false none (.mv (.t 20))) <|
 .fin))))))))))))))))))))
 .ret))
def r153 : List MR := [.t 2]
theorem is153 : FnIs Tryz.prog 153 21 m153 r153 := ⟨by kernel_rfl, Tryz.f153, _, Tryz.func153, rfl, by decide, rfl, by kernel_rfl, by kernel_rfl⟩

def m154 : MC :=
 (.seq
 (.reg [.h (some 7) none (.box (.t 0)),
 .h (some 8) none (.box (.t 1)),
 .h (some 9) none (.box (.t 2)),
 .h (some 10) none (.box (.t 3)),
 .h (some 11) none (.box (.t 4))])
 (.seq
 (.reg [.l (some 15) false none (.mkfn (.func 179) [] [.t 7, .t 8, .t 9, .t 11, .t 10]),
 .l (some 14) false none (.mv (.t 15))])
 (.seq
 (.reg [.l (some 16) false none (.mv (.t 14)),
 .l (some 17) false none (.mv (.t 5)),
 .h (some 18) none (.call (.t 16) [.t 17, .c (.i .i64 16), .c (.i .i64 12)])])
 (.reg [.l (some 19) false none (.mv (.t 14)),
 .l (some 20) false none (.mv (.t 6)),
 .h (some 21) none (.call (.t 19) [.t 20, .c (.i .i64 8), .c (.i .i64 7)])]))))
def r154 : List MR := []
theorem is154 : FnIs Tryz.prog 154 22 m154 r154 := ⟨by kernel_rfl, Tryz.f154, _, Tryz.func154, rfl, by decide, rfl, by kernel_rfl, by kernel_rfl⟩

def m155 : MC :=
 (.seq
 (.reg [.l (some 4) false none (.mv (.c (.i .i64 0)))])
 (.seq
 (.reg [.l (some 5) false none (.mv (.t 0)),
 .l (some 6) false none (.bin .mul (.c (.i .i64 16)) (.t 5)),
 .l (some 7) false none (.mv (.t 1)),
 .l (some 8) false none (.bin .add (.t 6) (.t 7)),
 .l (some 9) false none (.idxS (.c (.s ⟨#[48, 49, 50, 51, 52, 53, 54, 55, 56, 57, 97, 98, 99, 100, 101, 102, 101, 97, 52, 56, 57, 102, 100, 54, 49, 99, 48, 50, 98, 55, 53, 51, 98, 56, 99, 48, 53, 50, 102, 100, 97, 101, 51, 54, 55, 49, 57, 52, 55, 57, 51, 49, 100, 99, 98, 101, 50, 54, 53, 97, 52, 48, 102, 56, 57, 48, 53, 55, 50, 52, 97, 102, 101, 49, 98, 99, 54, 56, 51, 100, 50, 99, 54, 97, 48, 98, 56, 51, 52, 100, 55, 53, 102, 101, 49, 57, 99, 53, 49, 102, 101, 100, 52, 97, 48, 55, 54, 51, 57, 50, 56, 98, 100, 98, 55, 101, 99, 49, 51, 57, 53, 48, 102, 52, 56, 54, 50, 97, 54, 102, 101, 57, 98, 51, 48, 56, 99, 50, 100, 55, 49, 52, 97, 53, 97, 50, 56, 52, 55, 54, 49, 53, 102, 98, 57, 101, 51, 99, 100, 48]⟩)) (.t 8)),
 .h (some 10) none (.call (.c (.fn (.func 181) [] [])) [.c (.s ⟨#[48, 49, 50, 51, 52, 53, 54, 55, 56, 57, 97, 98, 99, 100, 101, 102]⟩), .t 9]),
 .l (some 4) false none (.mv (.t 10))])
 .ret))
def r155 : List MR := [.t 4]
theorem is155 : FnIs Tryz.prog 155 11 m155 r155 := ⟨by kernel_rfl, Tryz.f155, _, Tryz.func155, rfl, by decide, rfl, by kernel_rfl, by kernel_rfl⟩

def m172 : MC :=
 (.seq
 (.reg [.l (some 4) false none (.mv (.c (.i .u8 0)))])
 (.seq
 (.reg [.l (some 5) false none (.mv (.c (.i .u8 0)))])
 (.seq
 (.seq
 (.reg [.l (some 7) false none (.mv (.c (.i .i64 0)))])
 (.block 0
 (.loop
 (.seq
 (.reg [.l (some 8) false none (.bin .lss (.t 7) (.c (.i .i64 8)))])
 (.seq
 (.cond (.t 8)
 .skip
 (.exit 0))
 (.seq
 (.block 1
 (.seq
 (.seq
 (.reg [.l (some 9) false none (.mv (.t 1)),
 .l (some 10) false none (.bin .and (.t 9) (.c (.i .u8 1))),
 .l (some 11) false none (.bin .eql (.t 10) (.c (.i .u8 1)))])
 (.cond (.t 11)
 (.reg [.l (some 12) false none (.mv (.t 5)),
 .l (some 13) false none (.mv (.t 0)),
 .l (some 14) false none (.bin .xor (.t 12) (.t 13)),
 .l (some 5) false none (.mv (.t 14))])
 .skip))
 (.seq
 (.reg [.l (some 15) false none (.mv (.t 0)),
 .l (some 16) false none (.bin .shr (.t 15) (.c (.i .u64 7))),
 .l (some 6) false none (.mv (.t 16))])
 (.seq
 (.reg [.l (some 17) false none (.mv (.t 0)),
 .l (some 18) false none (.bin .shl (.t 17) (.c (.i .u64 1))),
 .l (some 19) false none (.mv (.t 6)),
 .l (some 20) false none (.bin .mul (.t 19) (.c (.i .u8 29))),
 .l (some 21) false none (.bin .xor (.t 18) (.t 20)),
 .l (some 0) false none (.mv (.t 21))])
 (.reg [.l (some 22) false none (.mv (.t 1)),
 .l (some 23) false none (.bin .shr (.t 22) (.c (.i .u64 1))),
 .l (some 1) false none (.mv (.t 23))])))))
 (.reg [.l (some 24) false none (.bin .add (.t 7) (.c (.i .i64 1))),
 .l (some 7) false none (.mv (.t 24))])))))))
 (.seq
 (.reg [.l (some 25) false none (.mv (.t 5)),
 .l (some 4) false none (.mv (.t 25))])
 .ret))))
def r172 : List MR := [.t 4]
theorem is172 : FnIs Tryz.prog 172 26 m172 r172 := ⟨by kernel_rfl, Tryz.f172, _, Tryz.func172, rfl, by decide, rfl, by kernel_rfl, by kernel_rfl⟩

def m173 : MC :=
 (.seq
 (.reg [.l (some 2) false none (.mv (.c (.i .u8 0)))])
 (.seq
 (.reg [.l (some 3) false none (.mv (.c (.i .u8 1)))])
 (.seq
 (.seq
 (.reg [.l (some 4) false none (.mv (.c (.i .i64 0)))])
 (.block 0
 (.loop
 (.seq
 (.reg [.l (some 5) false none (.bin .lss (.t 4) (.c (.i .i64 7)))])
 (.seq
 (.cond (.t 5)
 .skip
 (.exit 0))
 (.seq
 (.block 1
 (.seq
 (.reg [.l (some 6) false none (.mv (.t 0)),
 .l (some 7) false none (.mv (.t 0)),
 .h (some 8) none (.call (.c (.fn (.func 172) [] [])) [.t 6, .t 7]),
 .l (some 0) false none (.mv (.t 8))])
 (.reg [.l (some 9) false none (.mv (.t 3)),
 .l (some 10) false none (.mv (.t 0)),
 .h (some 11) none (.call (.c (.fn (.func 172) [] [])) [.t 9, .t 10]),
 .l (some 3) false none (.mv (.t 11))])))
 (.reg [.l (some 12) false none (.bin .add (.t 4) (.c (.i .i64 1))),
 .l (some 4) false none (.mv (.t 12))])))))))
 (.seq
 (.reg [.l (some 13) false none (.mv (.t 3)),
 .l (some 2) false none (.mv (.t 13))])
 .ret))))
def r173 : List MR := [.t 2]
theorem is173 : FnIs Tryz.prog 173 14 m173 r173 := ⟨by kernel_rfl, Tryz.f173, _, Tryz.func173, rfl, by decide, rfl, by kernel_rfl, by kernel_rfl⟩

def m179 : MC :=
 (.seq
 (.dreg (.light 0 (.l (some 11) false none (.load 1 false (.t 3))) <|
 (.light 1 (.l (some 12) false none (.load 1 false (.t 4))) <|
 (.light 2 (.l (some 13) false none (.nilck (.t 11))) <|
 (.light 3 (.l (some 14) false none (.iaddrA 16 1 (.t 13) (.t 12))) <|
 (.light 4 (.l (some 15) false none (.load 1 false (.t 14))) <|
 (.light 5 (.l (some 16) false none (.load 1 false (.t 3))) <|
 (.light 6 (.l (some 17) false none (.load 1 false (.t 5))) <|
 (.light 7 (.l (some 18) false none (.nilck (.t 16))) <|
 (.light 8 (.l (some 19) false none (.iaddrA 16 1 (.t 18) (.t 17))) <|
 (.light 9 (.l (some 20) false none (.load 1 false (.t 19))) <|
 (.light 10 (.l (some 21) false none (.mv (.t 0))) <|
 (.light 11 (.l (some 22) false none (.bin .add (.t 20) (.t 21))) <|
 (.light 12 (.l (some 23) false none (.bin .add (.t 15) (.t 22))) <|
 (.light 13 (.l (some 24) false none (.nilck (.t 11))) <|
 (.light 14 (.l (some 25) false none (.iaddrA 16 1 (.t 24) (.t 12))) <|
 (.heavy 15 [] (.h none none (.store 1 (.t 25) (.t 23)))
 .fin
 .nil)))))))))))))))))
 (.seq
 (.dreg (.light 0 (.l (some 26) false none (.load 1 false (.t 3))) <|
 (.light 1 (.l (some 27) false none (.load 1 false (.t 6))) <|
 (.light 2 (.l (some 28) false none (.load 1 false (.t 3))) <|
 (.light 3 (.l (some 29) false none (.load 1 false (.t 6))) <|
 (.light 4 (.l (some 30) false none (.nilck (.t 28))) <|
 (.light 5 (.l (some 31) false none (.iaddrA 16 1 (.t 30) (.t 29))) <|
 (.light 6 (.l (some 32) false none (.load 1 false (.t 31))) <|
 (.light 7 (.l (some 33) false none (.load 1 false (.t 3))) <|
 (.light 8 (.l (some 34) false none (.load 1 false (.t 4))) <|
 (.light 9 (.l (some 35) false none (.nilck (.t 33))) <|
 (.light 10 (.l (some 36) false none (.iaddrA 16 1 (.t 35) (.t 34))) <|
 (.light 11 (.l (some 37) false none (.load 1 false (.t 36))) <|
 (.light 12 (.l (some 38) false none (.bin .xor (.t 32) (.t 37))) <|
 (.light 13 (.l (some 39) false none (.mv (.t 1))) <|
 (.light 14 (.l (some 40) false none (.un .neg (.t 39))) <|
 (.light 16 (.l (some 42) false none (.nilck (.t 26))) <|
 (.heavy 15 [0, 1, 16] (.h (some 41) none (.call (.c (.fn (.func 180) [] [])) [.t 38, .t 40]))
 (.light 17 (.l (some 43) false none (.iaddrA 16 1 (.t 42) (.t 27))) <|
 (.heavy 18 [] (.h none none (.store 1 (.t 43) (.t 41)))
 .fin
 .nil))
 .nil))))))))))))))))))
 (.seq
 (.dreg (.light 0 (.l (some 44) false none (.load 1 false (.t 3))) <|
 (.light 1 (.l (some 45) false none (.load 1 false (.t 7))) <|
 (.light 2 (.l (some 46) false none (.nilck (.t 44))) <|
 (.light 3 (.l (some 47) false none (.iaddrA 16 1 (.t 46) (.t 45))) <|
 (.light 4 (.l (some 48) false none (.load 1 false (.t 47))) <|
 (.light 5 (.l (some 49) false none (.load 1 false (.t 3))) <|
 (.light 6 (.l (some 50) false none (.load 1 false (.t 6))) <|
 (.light 7 (.l (some 51) false none (.nilck (.t 49))) <|
 (.light 8 (.l (some 52) false none (.iaddrA 16 1 (.t 51) (.t 50))) <|
 (.light 9 (.l (some 53) false none (.load 1 false (.t 52))) <|
 (.light 10 (.l (some 54) false none (.bin .add (.t 48) (.t 53))) <|
 (.light 11 (.l (some 55) false none (.nilck (.t 44))) <|
 (.light 12 (.l (some 56) false none (.iaddrA 16 1 (.t 55) (.t 45))) <|
 (.heavy 13 [] (.h none none (.store 1 (.t 56) (.t 54)))
 .fin
 .nil)))))))))))))))
 (.dreg (.light 0 (.l (some 57) false none (.load 1 false (.t 3))) <|
 (.light 1 (.l (some 58) false none (.load 1 false (.t 5))) <|
 (.light 2 (.l (some 59) false none (.load 1 false (.t 3))) <|
 (.light 3 (.l (some 60) false none (.load 1 false (.t 5))) <|
 (.light 4 (.l (some 61) false none (.nilck (.t 59))) <|
 (.light 5 (.l (some 62) false none (.iaddrA 16 1 (.t 61) (.t 60))) <|
 (.light 6 (.l (some 63) false none (.load 1 false (.t 62))) <|
 (.light 7 (.l (some 64) false none (.load 1 false (.t 3))) <|
 (.light 8 (.l (some 65) false none (.load 1 false (.t 7))) <|
 (.light 9 (.l (some 66) false none (.nilck (.t 64))) <|
 (.light 10 (.l (some 67) false none (.iaddrA 16 1 (.t 66) (.t 65))) <|
 (.light 11 (.l (some 68) false none (.load 1 false (.t 67))) <|
 (.light 12 (.l (some 69) false none (.bin .xor (.t 63) (.t 68))) <|
 (.light 13 (.l (some 70) false none (.mv (.t 2))) <|
 (.light 14 (.l (some 71) false none (.un .neg (.t 70))) <|
 (.light 16 (.l (some 73) false none (.nilck (.t 57))) <|
 (.heavy 15 [0, 1, 16] (.h (some 72) none (.call (.c (.fn (.func 180) [] [])) [.t 69, .t 71]))
 (.light 17 (.l (some 74) false none (.iaddrA 16 1 (.t 73) (.t 58))) <|
 (.heavy 18 [] (.h none none (.store 1 (.t 74) (.t 72)))
 .fin
 .nil))
 .nil)))))))))))))))))))))
def r179 : List MR := []
theorem is179 : FnIs Tryz.prog 179 75 m179 r179 := ⟨by kernel_rfl, Tryz.f179, _, Tryz.func179, rfl, by decide, rfl, by kernel_rfl, by kernel_rfl⟩

def m180 : MC :=
 (.seq
 (.reg [.l (some 4) false none (.mv (.c (.i .u32 0)))])
 (.seq
 (.reg [.l (some 6) false none (.mv (.t 1)),
 .l (some 7) false none (.conv .u64 (.t 6)),
 .l (some 8) false none (.bin .and (.t 7) (.c (.i .u64 31))),
 .l (some 5) false none (.mv (.t 8))])
 (.seq
 (.reg [.l (some 9) false none (.mv (.t 0)),
 .l (some 10) false none (.mv (.t 5)),
 .l (some 11) false none (.bin .shl (.t 9) (.t 10)),
 .l (some 12) false none (.mv (.t 0)),
 .l (some 13) false none (.mv (.t 5)),
 .l (some 14) false none (.bin .sub (.c (.i .u64 32)) (.t 13)),
 .l (some 15) false none (.bin .shr (.t 12) (.t 14)),
 .l (some 16) false none (.bin .or (.t 11) (.t 15)),
 .l (some 4) false none (.mv (.t 16))])
 .ret)))
def r180 : List MR := [.t 4]
theorem is180 : FnIs Tryz.prog 180 17 m180 r180 := ⟨by kernel_rfl, Tryz.f180, _, Tryz.func180, rfl, by decide, rfl, by kernel_rfl, by kernel_rfl⟩

def m3 : MC :=
 (.seq
 (.reg [.h (some 5) none (.box (.t 2)),
 .l (some 6) false none (.mv (.c (.ff)))])
 (.seq
 (.seq
 (.reg [.h (some 16) none (.call (.c (.fn (.func 10) [] [])) []),
 .l (some 17) false none (.un .not (.t 16))])
 (.cond (.t 17)
 (.seq
 (.reg [.l (some 6) false none (.mv (.c (.ff)))])
 .ret)
 .skip))
 (.seq
 (.seq
 (.reg [.l (some 18) false none (.mv (.t 0)),
 .l (some 19) false none (.len false (.t 18)),
 .l (some 20) false none (.bin .eql (.t 19) (.c (.i .i64 0))),
 .l (some 21) true none (.mv (.t 20)),
 .l (some 22) false (some (21, false)) (.mv (.t 0)),
 .l (some 23) false (some (21, false)) (.len false (.t 22)),
 .l (some 24) false (some (21, false)) (.bin .gtr (.t 23) (.c (.i .i64 4))),
 .l (some 25) false none (.pick (.t 21) (.c (.tt)) (.t 24)),
 .l (some 26) true none (.mv (.t 25)),
 .l (some 27) false (some (26, false)) (.mv (.t 1)),
 .l (some 28) false (some (26, false)) (.len true (.t 27)),
 .l (some 29) false (some (26, false)) (.bin .lss (.t 28) (.c (.i .i64 1))),
 .l (some 30) false none (.pick (.t 26) (.c (.tt)) (.t 29)),
 .l (some 31) true none (.mv (.t 30)),
 .l (some 32) false (some (31, false)) (.mv (.t 1)),
 .l (some 33) false (some (31, false)) (.len true (.t 32)),
 .l (some 34) false (some (31, false)) (.bin .gtr (.t 33) (.c (.i .i64 100))),
 .l (some 35) false none (.pick (.t 31) (.c (.tt)) (.t 34)),
 .l (some 36) true none (.mv (.t 35)),
 .l (some 37) false (some (36, false)) (.load 6 true (.t 5)),
 .h (some 38) (some (36, false)) (.call (.c (.fn (.func 11) [] [])) [.t 37]),
 .l (some 39) false (some (36, false)) (.un .not (.t 38)),
 .l (some 40) false none (.pick (.t 36) (.c (.tt)) (.t 39))])
 (.cond (.t 40)
 (.seq
 (.reg [.l (some 6) false none (.mv (.c (.tt)))])
 .ret)
 .skip))
 (.seq
 (.reg [.h (some 41) none (.call (.c (.fn (.func 12) [] [])) []),
 .h (some 7) none (.alloc [.nils, .nils, .nils, .nils, .nils, .nils, .nils, .nils, .nils, .nils, .i .i64 0]),
 .h none none (.store 11 (.t 7) (.t 41))])
 (.seq
 (.reg [.l (some 8) false none (.mv (.c (.s ⟨#[]⟩)))])
 (.seq
 (.seq
 (.reg [.l (some 42) false none (.mv (.t 0)),
 .l (some 43) false none (.len false (.t 42)),
 .l (some 44) false none (.mv (.c (.i .i64 0)))])
 (.block 0
 (.loop
 (.seq
 (.reg [.l (some 45) false none (.bin .lss (.t 44) (.t 43))])
 (.seq
 (.cond (.t 45)
 .skip
 (.exit 0))
 (.seq
 (.block 1
 (.seq
 (.reg [.l (some 46) false none (.iaddr 1 (.t 42) (.t 44)),
 .l (some 47) false none (.load 1 false (.t 46)),
 .l (some 10) false none (.mv (.t 47))])
 (.seq
 (.seq
 (.reg [.l (some 48) false none (.mv (.t 10)),
 .l (some 49) false none (.len true (.t 48)),
 .l (some 50) false none (.bin .gtr (.t 49) (.c (.i .i64 500)))])
 (.cond (.t 50)
 (.seq
 (.reg [.l (some 6) false none (.mv (.c (.tt)))])
 .ret)
 .skip))
 (.seq
 (.reg [.l (some 52) false none (.load 11 true (.t 7)),
 .l (some 53) false none (.mv (.t 1)),
 .l (some 54) false none (.mv (.t 10)),
 .h (some 55) none (.call (.c (.fn (.func 13) [] [])) [.t 52, .t 53, .t 54]),
 .l (some 51) false none (.mv (.t 55)),
 .l (some 56) false none (.ext (.t 51) 0),
 .l (some 57) false none (.ext (.t 51) 1),
 .h (some 11) none (.alloc [.nils, .nils, .nils, .nils, .nils, .nils, .nils, .nils, .nils, .nils, .i .i64 0]),
 .h none none (.store 11 (.t 11) (.t 56)),
 .l (some 12) false none (.mv (.t 57))])
 (.seq
 (.seq
 (.reg [.l (some 58) false none (.mv (.t 12)),
 .l (some 59) false none (.bin .neq (.t 58) (.c (.i .i64 0)))])
 (.cond (.t 59)
 (.seq
 (.reg [.l (some 6) false none (.mv (.c (.ff)))])
 .ret)
 .skip))
 (.reg [.l (some 60) false none (.load 11 true (.t 11)),
 .l (some 61) false none (.mv (.t 10)),
 .h none none (.store 11 (.t 7) (.t 60)),
 .l (some 8) false none (.mv (.t 61))]))))))
 (.reg [.l (some 62) false none (.bin .add (.t 44) (.c (.i .i64 1))),
 .l (some 44) false none (.mv (.t 62))])))))))
 (.seq
 (.reg [.l (some 64) false none (.load 11 true (.t 7)),
 .l (some 65) false none (.load 6 true (.t 5)),
 .h (some 66) none (.call (.c (.fn (.func 15) [] [])) [.t 64, .t 65]),
 .l (some 67) false none (.mv (.t 1)),
 .h (some 68) none (.call (.c (.fn (.func 14) [] [])) [.t 66, .t 67]),
 .l (some 63) false none (.mv (.t 68)),
 .l (some 69) false none (.ext (.t 63) 0),
 .l (some 70) false none (.ext (.t 63) 1),
 .l (some 71) false none (.ext (.t 63) 2),
 .h (some 13) none (.alloc [.nils, .nils, .nils, .nils, .nils, .nils, .nils, .nils, .nils, .nils, .i .i64 0]),
 .h none none (.store 11 (.t 13) (.t 69)),
 .l (some 14) false none (.mv (.t 70)),
 .l (some 15) false none (.mv (.t 71))])
 (.seq
 (.seq
 (.reg [.l (some 72) false none (.mv (.t 15)),
 .l (some 73) false none (.bin .eql (.t 72) (.c (.i .i64 0))),
 .l (some 74) true none (.mv (.t 73)),
 .l (some 75) false (some (74, true)) (.mv (.t 14)),
 .l (some 76) false (some (74, true)) (.mv (.t 8)),
 .l (some 77) false (some (74, true)) (.bin .neq (.t 75) (.t 76)),
 .l (some 78) false none (.pick (.t 74) (.t 77) (.c (.ff))),
 .l (some 79) true none (.mv (.t 78)),
 .l (some 80) false (some (79, true)) (.mv (.t 14)),
 .h (some 81) (some (79, true)) (.bslice 1 1 [.s ⟨#[]⟩] [(0, 1, .t 80)]),
 .h (some 82) (some (79, true)) (.call (.c (.fn (.func 16) [] [])) [.t 81]),
 .l (some 83) false (some (79, true)) (.mv (.t 8)),
 .h (some 84) (some (79, true)) (.bslice 1 1 [.s ⟨#[]⟩] [(0, 1, .t 83)]),
 .h (some 85) (some (79, true)) (.call (.c (.fn (.func 16) [] [])) [.t 84]),
 .l (some 86) false (some (79, true)) (.eqA false [1, 1, 1, 1, 1, 1, 1, 1, 1, 1, 1, 1, 1, 1, 1, 1, 1, 1, 1, 1, 1, 1, 1, 1, 1, 1, 1, 1, 1, 1, 1, 1] (.t 82) (.t 85)),
 .l (some 87) false none (.pick (.t 79) (.t 86) (.c (.ff)))])
 (.cond (.t 87)
 (.seq
 (.reg [.l (some 6) false none (.mv (.c (.tt)))])
 .ret)
 .skip))
 (.seq
 (.reg [.l (some 88) false none (.mv (.t 15)),
 .l (some 89) false none (.bin .eql (.t 88) (.c (.i .i64 0))),
 .l (some 90) true none (.mv (.t 89)),
 .l (some 91) false (some (90, true)) (.mv (.t 14)),
 .l (some 92) false (some (90, true)) (.mv (.t 8)),
 .l (some 93) false (some (90, true)) (.bin .eql (.t 91) (.t 92)),
 .l (some 94) false none (.pick (.t 90) (.t 93) (.c (.ff))),
 .l (some 6) false none (.mv (.t 94))])
 .ret)))))))))
def r3 : List MR := [.t 6]
theorem is3 : FnIs Tryz.prog 3 95 m3 r3 := ⟨by kernel_rfl, Tryz.f3, _, Tryz.func3, rfl, by decide, rfl, by kernel_rfl, by kernel_rfl⟩

def m5 : MC :=
 (.seq
 (.reg [.l (some 6) false none (.mv (.c (.ff)))])
 (.seq
 (.seq
 (.reg [.h (some 18) none (.call (.c (.fn (.func 10) [] [])) []),
 .l (some 19) false none (.un .not (.t 18))])
 (.cond (.t 19)
 (.seq
 (.reg [.l (some 6) false none (.mv (.c (.ff)))])
 .ret)
 .skip))
 (.seq
 (.seq
 (.reg [.l (some 20) false none (.mv (.t 0)),
 .l (some 21) false none (.len true (.t 20)),
 .l (some 22) false none (.bin .lss (.t 21) (.c (.i .i64 1))),
 .l (some 23) true none (.mv (.t 22)),
 .l (some 24) false (some (23, false)) (.mv (.t 0)),
 .l (some 25) false (some (23, false)) (.len true (.t 24)),
 .l (some 26) false (some (23, false)) (.bin .gtr (.t 25) (.c (.i .i64 100))),
 .l (some 27) false none (.pick (.t 23) (.c (.tt)) (.t 26)),
 .l (some 28) true none (.mv (.t 27)),
 .l (some 29) false (some (28, false)) (.mv (.t 1)),
 .l (some 30) false (some (28, false)) (.len true (.t 29)),
 .l (some 31) false (some (28, false)) (.bin .gtr (.t 30) (.c (.i .i64 500))),
 .l (some 32) false none (.pick (.t 28) (.c (.tt)) (.t 31))])
 (.cond (.t 32)
 (.seq
 (.reg [.l (some 6) false none (.mv (.c (.tt)))])
 .ret)
 .skip))
 (.seq
 (.reg [.h (some 33) none (.call (.c (.fn (.func 12) [] [])) []),
 .h (some 7) none (.alloc [.nils, .nils, .nils, .nils, .nils, .nils, .nils, .nils, .nils, .nils, .i .i64 0]),
 .h none none (.store 11 (.t 7) (.t 33))])
 (.seq
 (.reg [.l (some 34) false none (.mv (.t 2)),
 .l (some 35) false none (.conv .i64 (.t 34)),
 .l (some 36) false none (.bin .rem (.t 35) (.c (.i .i64 8))),
 .l (some 37) false none (.faddr 10 (.t 7)),
 .h none none (.store 1 (.t 37) (.t 36))])
 (.seq
 (.reg [.l (some 39) false none (.load 11 true (.t 7)),
 .l (some 40) false none (.mv (.t 0)),
 .l (some 41) false none (.mv (.t 1)),
 .h (some 42) none (.call (.c (.fn (.func 13) [] [])) [.t 39, .t 40, .t 41]),
 .l (some 38) false none (.mv (.t 42)),
 .l (some 43) false none (.ext (.t 38) 0),
 .l (some 44) false none (.ext (.t 38) 1),
 .h (some 8) none (.alloc [.nils, .nils, .nils, .nils, .nils, .nils, .nils, .nils, .nils, .nils, .i .i64 0]),
 .h none none (.store 11 (.t 8) (.t 43)),
 .l (some 9) false none (.mv (.t 44))])
 (.seq
 (.reg [.l (some 46) false none (.load 11 true (.t 7)),
 .l (some 47) false none (.mv (.t 0)),
 .l (some 48) false none (.mv (.t 1)),
 .h (some 49) none (.call (.c (.fn (.func 17) [] [])) [.t 46, .t 47, .t 48]),
 .l (some 45) false none (.mv (.t 49)),
 .l (some 50) false none (.ext (.t 45) 0),
 .l (some 51) false none (.ext (.t 45) 1),
 .h (some 10) none (.alloc [.nils, .nils, .nils, .nils, .nils, .nils, .nils, .nils, .nils, .nils, .i .i64 0]),
 .h none none (.store 11 (.t 10) (.t 50)),
 .l (some 11) false none (.mv (.t 51))])
 (.seq
 (.seq
 (.reg [.l (some 52) false none (.mv (.c (.i .i64 0)))])
 (.block 0
 (.loop
 (.seq
 (.reg [.l (some 53) false none (.bin .lss (.t 52) (.c (.i .i64 5)))])
 (.seq
 (.cond (.t 53)
 .skip
 (.exit 0))
 (.seq
 (.block 1
 (.seq
 (.reg [.l (some 54) false none (.mv (.t 52)),
 .l (some 12) false none (.mv (.t 54))])
 (.seq
 (.reg [.l (some 13) false none (.mv (.c (.i .i64 0)))])
 (.seq
 (.seq
 (.reg [.l (some 55) false none (.mv (.t 12)),
 .l (some 56) false none (.faddr 10 (.t 7)),
 .l (some 57) false none (.load 1 false (.t 56)),
 .l (some 58) false none (.bin .lss (.t 55) (.t 57))])
 (.cond (.t 58)
 (.reg [.l (some 13) false none (.mv (.c (.i .i64 1)))])
 .skip))
 (.seq
 (.reg [.l (some 59) false none (.mv (.t 12)),
 .l (some 60) false none (.faddr 0 (.t 8)),
 .l (some 61) false none (.iaddrA 5 2 (.t 60) (.t 59)),
 .l (some 62) false none (.faddr 0 (.t 61)),
 .l (some 63) false none (.load 1 false (.t 62)),
 .l (some 64) false none (.len false (.t 63)),
 .l (some 65) false none (.mv (.t 13)),
 .l (some 66) false none (.bin .neq (.t 64) (.t 65)),
 .l (some 67) true none (.mv (.t 66)),
 .l (some 68) false (some (67, false)) (.mv (.t 12)),
 .l (some 69) false (some (67, false)) (.faddr 0 (.t 10)),
 .l (some 70) false (some (67, false)) (.iaddrA 5 2 (.t 69) (.t 68)),
 .l (some 71) false (some (67, false)) (.faddr 0 (.t 70)),
 .l (some 72) false (some (67, false)) (.load 1 false (.t 71)),
 .l (some 73) false (some (67, false)) (.len false (.t 72)),
 .l (some 74) false (some (67, false)) (.mv (.t 13)),
 .l (some 75) false (some (67, false)) (.bin .neq (.t 73) (.t 74)),
 .l (some 76) false none (.pick (.t 67) (.c (.tt)) (.t 75)),
 .l (some 77) true none (.mv (.t 76)),
 .l (some 78) false (some (77, false)) (.mv (.t 13)),
 .l (some 79) false (some (77, false)) (.bin .eql (.t 78) (.c (.i .i64 1))),
 .l (some 80) true (some (77, false)) (.mv (.t 79)),
 .l (some 81) false (some (80, true)) (.mv (.t 12)),
 .l (some 82) false (some (80, true)) (.faddr 0 (.t 10)),
 .l (some 83) false (some (80, true)) (.iaddrA 5 2 (.t 82) (.t 81)),
 .l (some 84) false (some (80, true)) (.faddr 0 (.t 83)),
 .l (some 85) false (some (80, true)) (.load 1 false (.t 84)),
 .l (some 86) false (some (80, true)) (.iaddr 4 (.t 85) (.c (.i .i64 0))),
 .l (some 87) false (some (80, true)) (.faddr 1 (.t 86)),
 .l (some 88) false (some (80, true)) (.load 1 false (.t 87)),
 .l (some 89) false (some (80, true)) (.mv (.t 1)),
 .l (some 90) false (some (80, true)) (.bin .neq (.t 88) (.t 89)),
 .l (some 91) false (some (77, false)) (.pick (.t 80) (.t 90) (.c (.ff))),
 .l (some 92) false none (.pick (.t 77) (.c (.tt)) (.t 91))])
 (.cond (.t 92)
 (.seq
 (.reg [.l (some 6) false none (.mv (.c (.ff)))])
 .ret)
 .skip))))))
 (.reg [.l (some 93) false none (.bin .add (.t 52) (.c (.i .i64 1))),
 .l (some 52) false none (.mv (.t 93))])))))))
 (.seq
 (.reg [.l (some 94) false none (.faddr 10 (.t 7)),
 .l (some 95) false none (.load 1 false (.t 94)),
 .l (some 96) false none (.bin .sub (.t 95) (.c (.i .i64 5))),
 .l (some 97) false none (.mm true (.c (.i .i64 0)) (.t 96)),
 .l (some 14) false none (.mv (.t 97))])
 (.seq
 (.seq
 (.reg [.l (some 98) false none (.faddr 10 (.t 8)),
 .l (some 99) false none (.load 1 false (.t 98)),
 .l (some 100) false none (.mv (.t 14)),
 .l (some 101) false none (.bin .neq (.t 99) (.t 100)),
 .l (some 102) true none (.mv (.t 101)),
 .l (some 103) false (some (102, false)) (.faddr 10 (.t 10)),
 .l (some 104) false (some (102, false)) (.load 1 false (.t 103)),
 .l (some 105) false (some (102, false)) (.mv (.t 14)),
 .l (some 106) false (some (102, false)) (.bin .neq (.t 104) (.t 105)),
 .l (some 107) false none (.pick (.t 102) (.c (.tt)) (.t 106)),
 .l (some 108) true none (.mv (.t 107)),
 .l (some 109) false (some (108, false)) (.mv (.t 9)),
 .l (some 110) false (some (108, false)) (.bin .eql (.t 109) (.c (.i .i64 0))),
 .l (some 111) false (some (108, false)) (.faddr 10 (.t 7)),
 .l (some 112) false (some (108, false)) (.load 1 false (.t 111)),
 .l (some 113) false (some (108, false)) (.bin .geq (.t 112) (.c (.i .i64 5))),
 .l (some 114) false (some (108, false)) (.eqB true (.t 110) (.t 113)),
 .l (some 115) false none (.pick (.t 108) (.c (.tt)) (.t 114)),
 .l (some 116) true none (.mv (.t 115)),
 .l (some 117) false (some (116, false)) (.mv (.t 9)),
 .l (some 118) false (some (116, false)) (.mv (.t 11)),
 .l (some 119) false (some (116, false)) (.bin .neq (.t 117) (.t 118)),
 .l (some 120) false none (.pick (.t 116) (.c (.tt)) (.t 119)),
 .l (some 121) true none (.mv (.t 120)),
 .l (some 122) false (some (121, false)) (.mv (.t 9)),
 .l (some 123) false (some (121, false)) (.bin .neq (.t 122) (.c (.i .i64 0))),
 .l (some 124) true (some (121, false)) (.mv (.t 123)),
 .l (some 125) false (some (124, true)) (.mv (.t 9)),
 .l (some 126) false (some (124, true)) (.bin .neq (.t 125) (.c (.i .i64 17))),
 .l (some 127) false (some (121, false)) (.pick (.t 124) (.t 126) (.c (.ff))),
 .l (some 128) false none (.pick (.t 121) (.c (.tt)) (.t 127))])
 (.cond (.t 128)
 (.seq
 (.reg [.l (some 6) false none (.mv (.c (.ff)))])
 .ret)
 .skip))
 (.seq
 (.reg [.l (some 129) false none (.faddr 10 (.t 8)),
 .h none none (.store 1 (.t 129) (.c (.i .i64 (-1))))])
 (.seq
 (.reg [.l (some 131) false none (.load 11 true (.t 8)),
 .l (some 132) false none (.mv (.t 0)),
 .h (some 133) none (.call (.c (.fn (.func 14) [] [])) [.t 131, .t 132]),
 .l (some 130) false none (.mv (.t 133)),
 .l (some 134) false none (.ext (.t 130) 0),
 .l (some 135) false none (.ext (.t 130) 1),
 .l (some 136) false none (.ext (.t 130) 2),
 .h (some 15) none (.alloc [.nils, .nils, .nils, .nils, .nils, .nils, .nils, .nils, .nils, .nils, .i .i64 0]),
 .h none none (.store 11 (.t 15) (.t 134)),
 .l (some 16) false none (.mv (.t 135)),
 .l (some 17) false none (.mv (.t 136))])
 (.seq
 (.seq
 (.reg [.l (some 137) false none (.faddr 10 (.t 7)),
 .l (some 138) false none (.load 1 false (.t 137)),
 .l (some 139) false none (.bin .geq (.t 138) (.c (.i .i64 3)))])
 (.cond (.t 139)
 (.seq
 (.reg [.l (some 140) false none (.mv (.t 17)),
 .l (some 141) false none (.bin .eql (.t 140) (.c (.i .i64 0))),
 .l (some 142) true none (.mv (.t 141)),
 .l (some 143) false (some (142, true)) (.mv (.t 16)),
 .l (some 144) false (some (142, true)) (.mv (.t 1)),
 .l (some 145) false (some (142, true)) (.bin .eql (.t 143) (.t 144)),
 .l (some 146) false none (.pick (.t 142) (.t 145) (.c (.ff))),
 .l (some 6) false none (.mv (.t 146))])
 .ret)
 .skip))
 (.seq
 (.reg [.l (some 147) false none (.mv (.t 16)),
 .l (some 148) false none (.bin .eql (.t 147) (.c (.s ⟨#[]⟩))),
 .l (some 149) true none (.mv (.t 148)),
 .l (some 150) false (some (149, true)) (.mv (.t 17)),
 .l (some 151) false (some (149, true)) (.bin .eql (.t 150) (.c (.i .i64 9))),
 .l (some 152) false none (.pick (.t 149) (.t 151) (.c (.ff))),
 .l (some 6) false none (.mv (.t 152))])
 .ret))))))))))))))
def r5 : List MR := [.t 6]
theorem is5 : FnIs Tryz.prog 5 153 m5 r5 := ⟨by kernel_rfl, Tryz.f5, _, Tryz.func5, rfl, by decide, rfl, by kernel_rfl, by kernel_rfl⟩

def m6 : MC :=
 (.seq
 (.reg [.h (some 5) none (.box (.t 2)),
 .l (some 6) false none (.mv (.c (.ff)))])
 (.seq
 (.seq
 (.reg [.h (some 15) none (.call (.c (.fn (.func 10) [] [])) []),
 .l (some 16) false none (.un .not (.t 15))])
 (.cond (.t 16)
 (.seq
 (.reg [.l (some 6) false none (.mv (.c (.ff)))])
 .ret)
 .skip))
 (.seq
 (.seq
 (.reg [.l (some 17) false none (.mv (.t 0)),
 .l (some 18) false none (.len false (.t 17)),
 .l (some 19) false none (.bin .eql (.t 18) (.c (.i .i64 0))),
 .l (some 20) true none (.mv (.t 19)),
 .l (some 21) false (some (20, false)) (.mv (.t 0)),
 .l (some 22) false (some (20, false)) (.len false (.t 21)),
 .l (some 23) false (some (20, false)) (.bin .gtr (.t 22) (.c (.i .i64 4))),
 .l (some 24) false none (.pick (.t 20) (.c (.tt)) (.t 23)),
 .l (some 25) true none (.mv (.t 24)),
 .l (some 26) false (some (25, false)) (.mv (.t 1)),
 .l (some 27) false (some (25, false)) (.len true (.t 26)),
 .l (some 28) false (some (25, false)) (.bin .lss (.t 27) (.c (.i .i64 1))),
 .l (some 29) false none (.pick (.t 25) (.c (.tt)) (.t 28)),
 .l (some 30) true none (.mv (.t 29)),
 .l (some 31) false (some (30, false)) (.mv (.t 1)),
 .l (some 32) false (some (30, false)) (.len true (.t 31)),
 .l (some 33) false (some (30, false)) (.bin .gtr (.t 32) (.c (.i .i64 100))),
 .l (some 34) false none (.pick (.t 30) (.c (.tt)) (.t 33)),
 .l (some 35) true none (.mv (.t 34)),
 .l (some 36) false (some (35, false)) (.load 6 true (.t 5)),
 .h (some 37) (some (35, false)) (.call (.c (.fn (.func 11) [] [])) [.t 36]),
 .l (some 38) false (some (35, false)) (.un .not (.t 37)),
 .l (some 39) false none (.pick (.t 35) (.c (.tt)) (.t 38))])
 (.cond (.t 39)
 (.seq
 (.reg [.l (some 6) false none (.mv (.c (.tt)))])
 .ret)
 .skip))
 (.seq
 (.reg [.h (some 40) none (.call (.c (.fn (.func 12) [] [])) []),
 .h (some 7) none (.alloc [.nils, .nils, .nils, .nils, .nils, .nils, .nils, .nils, .nils, .nils, .i .i64 0]),
 .h none none (.store 11 (.t 7) (.t 40))])
 (.seq
 (.seq
 (.reg [.l (some 41) false none (.mv (.t 0)),
 .l (some 42) false none (.len false (.t 41)),
 .l (some 43) false none (.mv (.c (.i .i64 0)))])
 (.block 0
 (.loop
 (.seq
 (.reg [.l (some 44) false none (.bin .lss (.t 43) (.t 42))])
 (.seq
 (.cond (.t 44)
 .skip
 (.exit 0))
 (.seq
 (.block 1
 (.seq
 (.reg [.l (some 45) false none (.iaddr 1 (.t 41) (.t 43)),
 .l (some 46) false none (.load 1 false (.t 45)),
 .l (some 9) false none (.mv (.t 46))])
 (.seq
 (.seq
 (.reg [.l (some 47) false none (.mv (.t 9)),
 .l (some 48) false none (.len true (.t 47)),
 .l (some 49) false none (.bin .gtr (.t 48) (.c (.i .i64 500)))])
 (.cond (.t 49)
 (.seq
 (.reg [.l (some 6) false none (.mv (.c (.tt)))])
 .ret)
 .skip))
 (.seq
 (.reg [.l (some 51) false none (.load 11 true (.t 7)),
 .l (some 52) false none (.mv (.t 1)),
 .l (some 53) false none (.mv (.t 9)),
 .h (some 54) none (.call (.c (.fn (.func 17) [] [])) [.t 51, .t 52, .t 53]),
 .l (some 50) false none (.mv (.t 54)),
 .l (some 55) false none (.ext (.t 50) 0),
 .l (some 56) false none (.ext (.t 50) 1),
 .h (some 10) none (.alloc [.nils, .nils, .nils, .nils, .nils, .nils, .nils, .nils, .nils, .nils, .i .i64 0]),
 .h none none (.store 11 (.t 10) (.t 55)),
 .l (some 11) false none (.mv (.t 56))])
 (.seq
 (.seq
 (.reg [.l (some 57) false none (.mv (.t 11)),
 .l (some 58) false none (.bin .neq (.t 57) (.c (.i .i64 0)))])
 (.cond (.t 58)
 (.seq
 (.reg [.l (some 6) false none (.mv (.c (.ff)))])
 .ret)
 .skip))
 (.reg [.l (some 59) false none (.load 11 true (.t 10)),
 .h none none (.store 11 (.t 7) (.t 59))]))))))
 (.reg [.l (some 60) false none (.bin .add (.t 43) (.c (.i .i64 1))),
 .l (some 43) false none (.mv (.t 60))])))))))
 (.seq
 (.reg [.l (some 62) false none (.load 11 true (.t 7)),
 .l (some 63) false none (.load 6 true (.t 5)),
 .h (some 64) none (.call (.c (.fn (.func 15) [] [])) [.t 62, .t 63]),
 .l (some 65) false none (.mv (.t 1)),
 .h (some 66) none (.call (.c (.fn (.func 18) [] [])) [.t 64, .t 65]),
 .l (some 61) false none (.mv (.t 66)),
 .l (some 67) false none (.ext (.t 61) 0),
 .l (some 68) false none (.ext (.t 61) 1),
 .l (some 69) false none (.ext (.t 61) 2),
 .h (some 12) none (.alloc [.nils, .nils, .nils, .nils, .nils, .nils, .nils, .nils, .nils, .nils, .i .i64 0]),
 .h none none (.store 11 (.t 12) (.t 67)),
 .l (some 13) false none (.mv (.t 68)),
 .l (some 14) false none (.mv (.t 69))])
 (.seq
 (.reg [.l (some 70) false none (.mv (.t 14)),
 .l (some 71) false none (.bin .eql (.t 70) (.c (.i .i64 0))),
 .l (some 72) true none (.mv (.t 71)),
 .l (some 73) false (some (72, true)) (.mv (.t 13)),
 .l (some 74) false (some (72, true)) (.mv (.t 0)),
 .l (some 75) false (some (72, true)) (.mv (.t 0)),
 .l (some 76) false (some (72, true)) (.len false (.t 75)),
 .l (some 77) false (some (72, true)) (.bin .sub (.t 76) (.c (.i .i64 1))),
 .l (some 78) false (some (72, true)) (.iaddr 1 (.t 74) (.t 77)),
 .l (some 79) false (some (72, true)) (.load 1 false (.t 78)),
 .l (some 80) false (some (72, true)) (.bin .eql (.t 73) (.t 79)),
 .l (some 81) false none (.pick (.t 72) (.t 80) (.c (.ff))),
 .l (some 6) false none (.mv (.t 81))])
 .ret)))))))
def r6 : List MR := [.t 6]
theorem is6 : FnIs Tryz.prog 6 82 m6 r6 := ⟨by kernel_rfl, Tryz.f6, _, Tryz.func6, rfl, by decide, rfl, by kernel_rfl, by kernel_rfl⟩

def m7 : MC :=
 (.seq
 (.reg [.h (some 5) none (.box (.t 2)),
 .l (some 6) false none (.mv (.c (.ff)))])
 (.seq
 (.seq
 (.reg [.h (some 21) none (.call (.c (.fn (.func 10) [] [])) []),
 .l (some 22) false none (.un .not (.t 21))])
 (.cond (.t 22)
 (.seq
 (.reg [.l (some 6) false none (.mv (.c (.ff)))])
 .ret)
 .skip))
 (.seq
 (.seq
 (.reg [.l (some 23) false none (.mv (.t 0)),
 .l (some 24) false none (.len false (.t 23)),
 .l (some 25) false none (.bin .gtr (.t 24) (.c (.i .i64 8))),
 .l (some 26) true none (.mv (.t 25)),
 .l (some 27) false (some (26, false)) (.load 6 true (.t 5)),
 .h (some 28) (some (26, false)) (.call (.c (.fn (.func 11) [] [])) [.t 27]),
 .l (some 29) false (some (26, false)) (.un .not (.t 28)),
 .l (some 30) false none (.pick (.t 26) (.c (.tt)) (.t 29)),
 .l (some 31) true none (.mv (.t 30)),
 .l (some 32) false (some (31, false)) (.faddr 2 (.t 5)),
 .l (some 33) false (some (31, false)) (.load 2 true (.t 32)),
 .h (some 34) (some (31, false)) (.call (.c (.fn (.func 19) [] [])) [.t 33]),
 .l (some 35) false (some (31, false)) (.bin .neq (.t 34) (.c (.i .i64 0))),
 .l (some 36) false none (.pick (.t 31) (.c (.tt)) (.t 35)),
 .l (some 37) true none (.mv (.t 36)),
 .l (some 38) false (some (37, false)) (.faddr 4 (.t 5)),
 .l (some 39) false (some (37, false)) (.load 2 true (.t 38)),
 .h (some 40) (some (37, false)) (.call (.c (.fn (.func 19) [] [])) [.t 39]),
 .l (some 41) false (some (37, false)) (.bin .neq (.t 40) (.c (.i .i64 0))),
 .l (some 42) false none (.pick (.t 37) (.c (.tt)) (.t 41))])
 (.cond (.t 42)
 (.seq
 (.reg [.l (some 6) false none (.mv (.c (.tt)))])
 .ret)
 .skip))
 (.seq
 (.reg [.h (some 43) none (.call (.c (.fn (.func 12) [] [])) []),
 .h (some 7) none (.alloc [.nils, .nils, .nils, .nils, .nils, .nils, .nils, .nils, .nils, .nils, .i .i64 0]),
 .h none none (.store 11 (.t 7) (.t 43))])
 (.seq
 (.seq
 (.reg [.l (some 44) false none (.mv (.t 0)),
 .l (some 45) false none (.len false (.t 44)),
 .l (some 46) false none (.mv (.c (.i .i64 0)))])
 (.block 0
 (.loop
 (.seq
 (.reg [.l (some 47) false none (.bin .lss (.t 46) (.t 45))])
 (.seq
 (.cond (.t 47)
 .skip
 (.exit 0))
 (.seq
 (.block 1
 (.seq
 (.reg [.l (some 48) false none (.mv (.t 46)),
 .l (some 49) false none (.iaddr 1 (.t 44) (.t 46)),
 .l (some 50) false none (.load 1 false (.t 49)),
 .l (some 8) false none (.mv (.t 48)),
 .l (some 9) false none (.mv (.t 50))])
 (.seq
 (.seq
 (.reg [.l (some 51) false none (.mv (.t 9)),
 .l (some 52) false none (.len true (.t 51)),
 .l (some 53) false none (.bin .lss (.t 52) (.c (.i .i64 1))),
 .l (some 54) true none (.mv (.t 53)),
 .l (some 55) false (some (54, false)) (.mv (.t 9)),
 .l (some 56) false (some (54, false)) (.len true (.t 55)),
 .l (some 57) false (some (54, false)) (.bin .gtr (.t 56) (.c (.i .i64 100))),
 .l (some 58) false none (.pick (.t 54) (.c (.tt)) (.t 57))])
 (.cond (.t 58)
 (.seq
 (.reg [.l (some 6) false none (.mv (.c (.tt)))])
 .ret)
 .skip))
 (.seq
 (.reg [.l (some 10) false none (.mv (.c (.i .i64 0)))])
 (.seq
 (.seq
 (.reg [.l (some 60) false none (.load 11 true (.t 7)),
 .l (some 61) false none (.mv (.t 9)),
 .h (some 62) none (.call (.c (.fn (.func 13) [] [])) [.t 60, .t 61, .c (.s ⟨#[120]⟩)]),
 .l (some 59) false none (.mv (.t 62)),
 .l (some 63) false none (.ext (.t 59) 0),
 .l (some 64) false none (.ext (.t 59) 1),
 .h none none (.store 11 (.t 7) (.t 63)),
 .l (some 10) false none (.mv (.t 64))])
 (.seq
 (.reg [.l (some 65) false none (.mv (.t 8)),
 .l (some 66) false none (.bin .rem (.t 65) (.c (.i .i64 2))),
 .l (some 67) false none (.bin .eql (.t 66) (.c (.i .i64 1)))])
 (.cond (.t 67)
 (.reg [.l (some 69) false none (.load 11 true (.t 7)),
 .l (some 70) false none (.mv (.t 9)),
 .h (some 71) none (.call (.c (.fn (.func 17) [] [])) [.t 69, .t 70, .c (.s ⟨#[121]⟩)]),
 .l (some 68) false none (.mv (.t 71)),
 .l (some 72) false none (.ext (.t 68) 0),
 .l (some 73) false none (.ext (.t 68) 1),
 .h none none (.store 11 (.t 7) (.t 72)),
 .l (some 10) false none (.mv (.t 73))])
 .skip)))
 (.seq
 (.reg [.l (some 74) false none (.mv (.t 10)),
 .l (some 75) false none (.bin .neq (.t 74) (.c (.i .i64 0)))])
 (.cond (.t 75)
 (.seq
 (.reg [.l (some 6) false none (.mv (.c (.ff)))])
 .ret)
 .skip)))))))
 (.reg [.l (some 76) false none (.bin .add (.t 46) (.c (.i .i64 1))),
 .l (some 46) false none (.mv (.t 76))])))))))
 (.seq
 (.seq
 (.reg [.l (some 77) false none (.mv (.t 1)),
 .l (some 78) false none (.len true (.t 77)),
 .l (some 79) false none (.bin .geq (.t 78) (.c (.i .i64 1))),
 .l (some 80) true none (.mv (.t 79)),
 .l (some 81) false (some (80, true)) (.mv (.t 1)),
 .l (some 82) false (some (80, true)) (.len true (.t 81)),
 .l (some 83) false (some (80, true)) (.bin .leq (.t 82) (.c (.i .i64 100))),
 .l (some 84) false none (.pick (.t 80) (.t 83) (.c (.ff)))])
 (.cond (.t 84)
 (.seq
 (.reg [.l (some 86) false none (.load 11 true (.t 7)),
 .l (some 87) false none (.mv (.t 1)),
 .h (some 88) none (.call (.c (.fn (.func 20) [] [])) [.t 86, .t 87]),
 .l (some 85) false none (.mv (.t 88)),
 .l (some 89) false none (.ext (.t 85) 0),
 .l (some 90) false none (.ext (.t 85) 1),
 .h (some 11) none (.alloc [.nils, .nils, .nils, .nils, .nils, .nils, .nils, .nils, .nils, .nils, .i .i64 0]),
 .h none none (.store 11 (.t 11) (.t 89)),
 .l (some 12) false none (.mv (.t 90))])
 (.seq
 (.reg [.l (some 91) false none (.load 11 true (.t 11)),
 .h none none (.store 11 (.t 7) (.t 91))])
 (.seq
 (.reg [.l (some 92) false none (.mv (.t 12)),
 .l (some 93) false none (.bin .neq (.t 92) (.c (.i .i64 0)))])
 (.cond (.t 93)
 (.seq
 (.reg [.l (some 6) false none (.mv (.c (.ff)))])
 .ret)
 .skip))))
 .skip))
 (.seq
 (.reg [.l (some 95) false none (.load 11 true (.t 7)),
 .l (some 96) false none (.load 6 true (.t 5)),
 .h (some 97) none (.call (.c (.fn (.func 15) [] [])) [.t 95, .t 96]),
 .h (some 98) none (.call (.c (.fn (.func 21) [] [])) [.t 97, .c (.s ⟨#[]⟩)]),
 .l (some 94) false none (.mv (.t 98)),
 .l (some 99) false none (.ext (.t 94) 0),
 .l (some 100) false none (.ext (.t 94) 1),
 .l (some 101) false none (.ext (.t 94) 2),
 .h (some 13) none (.alloc [.nils, .nils, .nils, .nils, .nils, .nils, .nils, .nils, .nils, .nils, .i .i64 0]),
 .h none none (.store 11 (.t 13) (.t 99)),
 .l (some 14) false none (.mv (.t 100)),
 .l (some 15) false none (.mv (.t 101))])
 (.seq
 (.seq
 (.reg [.l (some 102) false none (.mv (.t 15)),
 .l (some 103) false none (.bin .neq (.t 102) (.c (.i .i64 0)))])
 (.cond (.t 103)
 (.seq
 (.reg [.l (some 6) false none (.mv (.c (.ff)))])
 .ret)
 .skip))
 (.seq
 (.reg [.h (some 104) none (.call (.c (.nils)) []),
 .l (some 16) false none (.mv (.t 104))])
 (.seq
 (.seq
 (.reg [.l (some 105) false none (.mv (.t 14)),
 .l (some 106) false none (.len false (.t 105)),
 .l (some 107) false none (.mv (.c (.i .i64 0)))])
 (.block 2
 (.loop
 (.seq
 (.reg [.l (some 108) false none (.bin .lss (.t 107) (.t 106))])
 (.seq
 (.cond (.t 108)
 .skip
 (.exit 2))
 (.seq
 (.block 3
 (.seq
 (.reg [.l (some 109) false none (.mv (.t 107)),
 .l (some 110) false none (.iaddr 1 (.t 105) (.t 107)),
 .l (some 111) false none (.load 1 false (.t 110)),
 .l (some 17) false none (.mv (.t 109)),
 .l (some 18) false none (.mv (.t 111))])
 (.seq
 (.seq
 (.reg [.l (some 112) false none (.mv (.t 17)),
 .l (some 113) false none (.bin .gtr (.t 112) (.c (.i .i64 0))),
 .l (some 114) true none (.mv (.t 113)),
 .l (some 115) false (some (114, true)) (.mv (.t 14)),
 .l (some 116) false (some (114, true)) (.mv (.t 17)),
 .l (some 117) false (some (114, true)) (.bin .sub (.t 116) (.c (.i .i64 1))),
 .l (some 118) false (some (114, true)) (.iaddr 1 (.t 115) (.t 117)),
 .l (some 119) false (some (114, true)) (.load 1 false (.t 118)),
 .l (some 120) false (some (114, true)) (.mv (.t 18)),
 .l (some 121) false (some (114, true)) (.bin .geq (.t 119) (.t 120)),
 .l (some 122) false none (.pick (.t 114) (.t 121) (.c (.ff)))])
 (.cond (.t 122)
 (.seq
 (.reg [.l (some 6) false none (.mv (.c (.ff)))])
 .ret)
 .skip))
 (.reg [.l (some 123) false none (.mv (.t 16)),
 .l (some 124) false none (.mv (.t 18)),
 .h none none (.call (.c (.nils)) [])]))))
 (.reg [.l (some 125) false none (.bin .add (.t 107) (.c (.i .i64 1))),
 .l (some 107) false none (.mv (.t 125))])))))))
 (.seq
 (.seq
 (.reg [.l (some 126) false none (.mv (.t 0)),
 .l (some 127) false none (.len false (.t 126)),
 .l (some 128) false none (.mv (.c (.i .i64 0)))])
 (.block 4
 (.loop
 (.seq
 (.reg [.l (some 129) false none (.bin .lss (.t 128) (.t 127))])
 (.seq
 (.cond (.t 129)
 .skip
 (.exit 4))
 (.seq
 (.block 5
 (.seq
 (.reg [.l (some 130) false none (.iaddr 1 (.t 126) (.t 128)),
 .l (some 131) false none (.load 1 false (.t 130)),
 .l (some 20) false none (.mv (.t 131))])
 (.seq
 (.reg [.l (some 132) false none (.mv (.t 20)),
 .l (some 133) false none (.mv (.t 1)),
 .l (some 134) false none (.bin .neq (.t 132) (.t 133)),
 .l (some 135) true none (.mv (.t 134)),
 .l (some 136) false (some (135, true)) (.mv (.t 16)),
 .l (some 137) false (some (135, true)) (.mv (.t 20)),
 .h (some 138) (some (135, true)) (.call (.c (.nils)) []),
 .l (some 139) false (some (135, true)) (.un .not (.t 138)),
 .l (some 140) false none (.pick (.t 135) (.t 139) (.c (.ff)))])
 (.cond (.t 140)
 (.seq
 (.reg [.l (some 6) false none (.mv (.c (.ff)))])
 .ret)
 .skip))))
 (.reg [.l (some 141) false none (.bin .add (.t 128) (.c (.i .i64 1))),
 .l (some 128) false none (.mv (.t 141))])))))))
 (.seq
 (.reg [.l (some 6) false none (.mv (.c (.tt)))])
 .ret))))))))))))
def r7 : List MR := [.t 6]
theorem is7 : FnIs Tryz.prog 7 142 m7 r7 := ⟨by kernel_rfl, Tryz.f7, _, Tryz.func7, rfl, by decide, rfl, by kernel_rfl, by kernel_rfl⟩

end Go.Proofs.T
