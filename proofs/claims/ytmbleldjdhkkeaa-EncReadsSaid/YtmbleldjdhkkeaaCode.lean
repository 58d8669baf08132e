/- Try: the functions of the program, as the abstract machine has them (printed by a program of the session's own, gen.lean; each is held against the program by the kernel). -/
import Derived.Test.YtmbleldjdhkkeaaProg
import Derived.Test.YtmbleldjdhkkeaaFwC
import Derived.KernelRfl
namespace Go.Proofs.Ytmbleldjdhkkeaa.Fn
open Go Go.Abs
set_option maxRecDepth 100000

def modes : FuncId → AMode
  | 10 => .escape
  | 13 => .own
  | 14 => .own
  | 15 => .own
  | 16 => .own
  | 20 => .escape
  | 30 => .own
  | _ => .frozen
def raws : FuncId → Bool
  | _ => false
def wrs : FuncId → Bool
  | 11 => true
  | 17 => true
  | 21 => true
  | 22 => true
  | 23 => true
  | 24 => true
  | 25 => true
  | 26 => true
  | 31 => true
  | _ => false
abbrev main_main : Nat := 0
abbrev gosem_cut : Nat := 1
abbrev gosem_cut_init : Nat := 2
abbrev godwitlaw01_EncSplit : Nat := 3
abbrev godwitlaw01_EncLays : Nat := 4
abbrev godwitlaw01_EncLens : Nat := 5
abbrev godwitlaw01_EncBack : Nat := 6
abbrev godwitlaw01_EncReads : Nat := 7
abbrev godwitlaw01_EncStays : Nat := 8
abbrev godwitlaw01_awake : Nat := 9
abbrev enc_New : Nat := 10
abbrev __enc_Reader__U : Nat := 11
abbrev __enc_Reader__At : Nat := 12
abbrev enc_U : Nat := 13
abbrev godwitref01_U : Nat := 14
abbrev enc_List : Nat := 15
abbrev godwitref01_List : Nat := 16
abbrev __enc_Reader__List : Nat := 17
abbrev __enc_Reader__End : Nat := 18
abbrev __enc_Reader__Err : Nat := 19
abbrev godwitref01_New : Nat := 20
abbrev __godwitref01_Reader__U : Nat := 21
abbrev __godwitref01_Reader__List : Nat := 22
abbrev __enc_Reader__Flag : Nat := 23
abbrev __godwitref01_Reader__Flag : Nat := 24
abbrev __enc_Reader__Fail : Nat := 25
abbrev __godwitref01_Reader__Fail : Nat := 26
abbrev __godwitref01_Reader__End : Nat := 27
abbrev godwitlaw01_step : Nat := 28
abbrev enc_New_1 : Nat := 29
abbrev bytes_Clone : Nat := 30
abbrev __godwitref01_Reader__take : Nat := 31
abbrev _runtime_boundsError__Error : Nat := 32
abbrev _runtime_boundsError__RuntimeError : Nat := 33
abbrev _runtime_errorString__Error : Nat := 34
abbrev _runtime_errorString__RuntimeError : Nat := 35
abbrev _runtime_plainError__Error : Nat := 36
abbrev _runtime_plainError__RuntimeError : Nat := 37
abbrev _runtime_errorAddressString__Error : Nat := 38
abbrev _runtime_errorAddressString__RuntimeError : Nat := 39
abbrev __runtime_TypeAssertionError__Error : Nat := 40
abbrev __runtime_TypeAssertionError__RuntimeError : Nat := 41
abbrev __runtime_PanicNilError__Error : Nat := 42
abbrev __runtime_PanicNilError__RuntimeError : Nat := 43
abbrev __internal_abi_Type__Align : Nat := 44
abbrev _internal_runtime_maps_unhashableTypeError__Error : Nat := 45
abbrev _internal_runtime_maps_unhashableTypeError__RuntimeError : Nat := 46
abbrev _api_Errno__Error : Nat := 47
abbrev _internal_abi_Kind__String : Nat := 48

/-- gosem.cut.init -/
def gosem_cut_init_A : AFun := ⟨
 (.region <|
  .one (some 0) (.call 0 (.c (.fn gosem_cut [] [])) []) false [] <|
  .nil),
 [], 1, .frozen⟩
theorem gosem_cut_init_c : compFn Try.prog wrs modes 2 = some gosem_cut_init_A := by kernel_rfl

/-- godwit/godwitlaw01.EncSplit -/
def godwitlaw01_EncSplit_A : AFun := ⟨
 (.seq
  (.region <|
   .one (some 2) (.mv (.c (abool false))) false [] <|
   .nil)
  (.seq
   (.region <|
    .one (some 14) (.call 0 (.c (.fn godwitlaw01_awake [] [])) []) false [] <|
    .one (some 3) (.mv (.t 14)) false [] <|
    .nil)
   (.seq
    (.seq
     (.region <|
      .one (some 15) (.mv (.t 0)) false [] <|
      .one (some 16) (.len (.t 15)) false [] <|
      .one (some 17) (.bin .gtr (.t 16) (.c (aint 100))) false [] <|
      .one (some 18) (.mv (.t 17)) false [] <|
      .sc 22 19 22 18 false
        (.one (some 19) (.mv (.t 0)) false [] <|
         .one (some 20) (.len (.t 19)) false [] <|
         .one (some 21) (.bin .lss (.t 20) (.c (aint 4))) false [] <|
         .nil)
        (.c (abool true)) (.t 21) <|
      .nil)
     (.cond (.t 22)
      (.seq
       (.region <|
        .one (some 23) (.mv (.t 3)) false [] <|
        .one (some 2) (.mv (.t 23)) false [] <|
        .nil)
       .ret)
      .skip))
    (.seq
     (.region <|
      .one (some 24) (.mv (.t 0)) false [] <|
      .one (some 25) (.call 1 (.c (.fn enc_New [] [])) [(.t 24)]) false [] <|
      .one (some 4) (.mv (.t 25)) false [] <|
      .nil)
     (.seq
      (.region <|
       .one (some 26) (.mv (.t 0)) false [] <|
       .one (some 27) (.call 2 (.c (.fn enc_New [] [])) [(.t 26)]) false [] <|
       .one (some 5) (.mv (.t 27)) false [] <|
       .nil)
      (.seq
       (.region <|
        .one (some 28) (.mv (.t 0)) false [] <|
        .one (some 29) (.call 3 (.c (.fn enc_New [] [])) [(.t 28)]) false [] <|
        .one (some 6) (.mv (.t 29)) false [] <|
        .nil)
       (.seq
        (.region <|
         .one (some 30) (.mv (.t 4)) false [] <|
         .one (some 31) (.call 4 (.c (.fn __enc_Reader__U [] [])) [(.t 30), (.c (aint 1))]) false [] <|
         .one (some 7) (.mv (.t 31)) false [] <|
         .nil)
        (.seq
         (.region <|
          .one (some 32) (.mv (.t 4)) false [] <|
          .one (some 33) (.call 5 (.c (.fn __enc_Reader__U [] [])) [(.t 32), (.c (aint 1))]) false [] <|
          .one (some 8) (.mv (.t 33)) false [] <|
          .nil)
         (.seq
          (.region <|
           .one (some 34) (.mv (.t 4)) false [] <|
           .one (some 35) (.call 6 (.c (.fn __enc_Reader__U [] [])) [(.t 34), (.c (aint 1))]) false [] <|
           .one (some 9) (.mv (.t 35)) false [] <|
           .nil)
          (.seq
           (.region <|
            .one (some 36) (.mv (.t 4)) false [] <|
            .one (some 37) (.call 7 (.c (.fn __enc_Reader__U [] [])) [(.t 36), (.c (aint 1))]) false [] <|
            .one (some 10) (.mv (.t 37)) false [] <|
            .nil)
           (.seq
            (.region <|
             .one (some 38) (.mv (.t 5)) false [] <|
             .one (some 39) (.call 8 (.c (.fn __enc_Reader__U [] [])) [(.t 38), (.c (aint 2))]) false [] <|
             .one (some 11) (.mv (.t 39)) false [] <|
             .nil)
            (.seq
             (.region <|
              .one (some 40) (.mv (.t 5)) false [] <|
              .one (some 41) (.call 9 (.c (.fn __enc_Reader__U [] [])) [(.t 40), (.c (aint 2))]) false [] <|
              .one (some 12) (.mv (.t 41)) false [] <|
              .nil)
             (.seq
              (.region <|
               .one (some 42) (.mv (.t 6)) false [] <|
               .one (some 43) (.call 10 (.c (.fn __enc_Reader__U [] [])) [(.t 42), (.c (aint 4))]) false [] <|
               .one (some 13) (.mv (.t 43)) false [] <|
               .nil)
              (.seq
               (.region <|
                .one (some 44) (.mv (.t 3)) false [] <|
                .one (some 45) (.mv (.t 44)) false [] <|
                .sc 52 46 52 45 true
                  (.one (some 46) (.mv (.t 11)) false [] <|
                   .one (some 47) (.mv (.t 7)) false [] <|
                   .one (some 48) (.mv (.t 8)) false [] <|
                   .one (some 49) (.bin .mul (.t 48) (.c (.atom (.int .u64 256)))) false [] <|
                   .one (some 50) (.bin .add (.t 47) (.t 49)) false [] <|
                   .one (some 51) (.bin .eql (.t 46) (.t 50)) false [] <|
                   .nil)
                  (.t 51) (.c (abool false)) <|
                .one (some 53) (.mv (.t 52)) false [] <|
                .sc 60 54 60 53 true
                  (.one (some 54) (.mv (.t 12)) false [] <|
                   .one (some 55) (.mv (.t 9)) false [] <|
                   .one (some 56) (.mv (.t 10)) false [] <|
                   .one (some 57) (.bin .mul (.t 56) (.c (.atom (.int .u64 256)))) false [] <|
                   .one (some 58) (.bin .add (.t 55) (.t 57)) false [] <|
                   .one (some 59) (.bin .eql (.t 54) (.t 58)) false [] <|
                   .nil)
                  (.t 59) (.c (abool false)) <|
                .one (some 61) (.mv (.t 60)) false [] <|
                .sc 68 62 68 61 true
                  (.one (some 62) (.mv (.t 13)) false [] <|
                   .one (some 63) (.mv (.t 11)) false [] <|
                   .one (some 64) (.mv (.t 12)) false [] <|
                   .one (some 65) (.bin .mul (.t 64) (.c (.atom (.int .u64 65536)))) false [] <|
                   .one (some 66) (.bin .add (.t 63) (.t 65)) false [] <|
                   .one (some 67) (.bin .eql (.t 62) (.t 66)) false [] <|
                   .nil)
                  (.t 67) (.c (abool false)) <|
                .one (some 69) (.mv (.t 68)) false [] <|
                .sc 73 70 73 69 true
                  (.one (some 70) (.mv (.t 4)) false [] <|
                   .one (some 71) (.call 11 (.c (.fn __enc_Reader__At [] [])) [(.t 70)]) false [] <|
                   .one (some 72) (.bin .eql (.t 71) (.c (aint 4))) false [] <|
                   .nil)
                  (.t 72) (.c (abool false)) <|
                .one (some 74) (.mv (.t 73)) false [] <|
                .sc 78 75 78 74 true
                  (.one (some 75) (.mv (.t 5)) false [] <|
                   .one (some 76) (.call 12 (.c (.fn __enc_Reader__At [] [])) [(.t 75)]) false [] <|
                   .one (some 77) (.bin .eql (.t 76) (.c (aint 4))) false [] <|
                   .nil)
                  (.t 77) (.c (abool false)) <|
                .one (some 79) (.mv (.t 78)) false [] <|
                .sc 83 80 83 79 true
                  (.one (some 80) (.mv (.t 6)) false [] <|
                   .one (some 81) (.call 13 (.c (.fn __enc_Reader__At [] [])) [(.t 80)]) false [] <|
                   .one (some 82) (.bin .eql (.t 81) (.c (aint 4))) false [] <|
                   .nil)
                  (.t 82) (.c (abool false)) <|
                .one (some 2) (.mv (.t 83)) false [] <|
                .nil)
               .ret)))))))))))))),
 [.tmp 2], 14, .frozen⟩
theorem godwitlaw01_EncSplit_c : compFn Try.prog wrs modes 3 = some godwitlaw01_EncSplit_A := by kernel_rfl

/-- godwit/godwitlaw01.EncLays -/
def godwitlaw01_EncLays_A : AFun := ⟨
 (.seq
  (.region <|
   .one (some 8) (.mv (.c (abool false))) false [] <|
   .nil)
  (.seq
   (.region <|
    .one (some 10) (.call 0 (.c (.fn godwitlaw01_awake [] [])) []) false [] <|
    .one (some 9) (.mv (.t 10)) false [] <|
    .nil)
   (.seq
    (.seq
     (.region <|
      .one (some 11) (.mv (.t 0)) false [] <|
      .one (some 12) (.len (.t 11)) false [] <|
      .one (some 13) (.bin .gtr (.t 12) (.c (aint 500))) false [] <|
      .one (some 14) (.mv (.t 13)) false [] <|
      .sc 18 15 18 14 false
        (.one (some 15) (.mv (.t 3)) false [] <|
         .one (some 16) (.len (.t 15)) false [] <|
         .one (some 17) (.bin .gtr (.t 16) (.c (aint 70000))) false [] <|
         .nil)
        (.c (abool true)) (.t 17) <|
      .nil)
     (.cond (.t 18)
      (.seq
       (.region <|
        .one (some 19) (.mv (.t 9)) false [] <|
        .one (some 8) (.mv (.t 19)) false [] <|
        .nil)
       .ret)
      .skip))
    (.seq
     (.region <|
      .one (some 20) (.mv (.t 9)) false [] <|
      .one (some 21) (.mv (.t 20)) false [] <|
      .sc 33 22 33 21 true
        (.one (some 22) (.mv (.t 0)) false [] <|
         .one (some 23) (.mv (.t 1)) false [] <|
         .one (some 24) (.mv (.t 2)) false [] <|
         .one (some 25) (.call 1 (.c (.fn enc_U [] [])) [(.t 22), (.t 23), (.t 24)]) false [] <|
         .one (some 26) (.b2s (.t 25)) false [2] <|
         .one (some 27) (.mv (.t 0)) false [] <|
         .one (some 28) (.mv (.t 1)) false [] <|
         .one (some 29) (.mv (.t 2)) false [] <|
         .one (some 30) (.call 2 (.c (.fn godwitref01_U [] [])) [(.t 27), (.t 28), (.t 29)]) true [] <|
         .one (some 31) (.b2s (.t 30)) false [] <|
         .one (some 32) (.bin .eql (.t 26) (.t 31)) false [] <|
         .nil)
        (.t 32) (.c (abool false)) <|
      .one (some 34) (.mv (.t 33)) false [] <|
      .sc 44 35 44 34 true
        (.one (some 35) (.mv (.t 0)) false [] <|
         .one (some 36) (.mv (.t 3)) false [] <|
         .one (some 37) (.call 3 (.c (.fn enc_List [] [])) [(.t 35), (.t 36)]) false [] <|
         .one (some 38) (.b2s (.t 37)) false [4] <|
         .one (some 39) (.mv (.t 0)) false [] <|
         .one (some 40) (.mv (.t 3)) false [] <|
         .one (some 41) (.call 4 (.c (.fn godwitref01_List [] [])) [(.t 39), (.t 40)]) true [] <|
         .one (some 42) (.b2s (.t 41)) false [] <|
         .one (some 43) (.bin .eql (.t 38) (.t 42)) false [] <|
         .nil)
        (.t 43) (.c (abool false)) <|
      .one (some 8) (.mv (.t 44)) false [] <|
      .nil)
     .ret)))),
 [.tmp 8], 5, .frozen⟩
theorem godwitlaw01_EncLays_c : compFn Try.prog wrs modes 4 = some godwitlaw01_EncLays_A := by kernel_rfl

/-- godwit/godwitlaw01.EncLens -/
def godwitlaw01_EncLens_A : AFun := ⟨
 (.seq
  (.region <|
   .one (some 8) (.mv (.c (abool false))) false [] <|
   .nil)
  (.seq
   (.region <|
    .one (some 12) (.call 0 (.c (.fn godwitlaw01_awake [] [])) []) false [] <|
    .one (some 9) (.mv (.t 12)) false [] <|
    .nil)
   (.seq
    (.seq
     (.region <|
      .one (some 13) (.mv (.t 0)) false [] <|
      .one (some 14) (.len (.t 13)) false [] <|
      .one (some 15) (.bin .gtr (.t 14) (.c (aint 500))) false [] <|
      .one (some 16) (.mv (.t 15)) false [] <|
      .sc 20 17 20 16 false
        (.one (some 17) (.mv (.t 3)) false [] <|
         .one (some 18) (.len (.t 17)) false [] <|
         .one (some 19) (.bin .gtr (.t 18) (.c (aint 500))) false [] <|
         .nil)
        (.c (abool true)) (.t 19) <|
      .nil)
     (.cond (.t 20)
      (.seq
       (.region <|
        .one (some 21) (.mv (.t 9)) false [] <|
        .one (some 8) (.mv (.t 21)) false [] <|
        .nil)
       .ret)
      .skip))
    (.seq
     (.region <|
      .one (some 22) (.mv (.t 0)) false [] <|
      .one (some 23) (.mv (.t 1)) false [] <|
      .one (some 24) (.mv (.t 2)) false [] <|
      .one (some 25) (.call 1 (.c (.fn enc_U [] [])) [(.t 22), (.t 23), (.t 24)]) false [] <|
      .one (some 10) (.mv (.t 25)) false [] <|
      .nil)
     (.seq
      (.region <|
       .one (some 26) (.mv (.t 0)) false [] <|
       .one (some 27) (.mv (.t 3)) false [] <|
       .one (some 28) (.call 2 (.c (.fn enc_List [] [])) [(.t 26), (.t 27)]) false [] <|
       .one (some 11) (.mv (.t 28)) false [] <|
       .nil)
      (.seq
       (.region <|
        .one (some 29) (.mv (.t 9)) false [] <|
        .one (some 30) (.mv (.t 29)) false [] <|
        .sc 40 31 40 30 true
          (.one (some 31) (.mv (.t 10)) false [] <|
           .one (some 32) (.len (.t 31)) false [] <|
           .one (some 33) (.mv (.t 0)) false [] <|
           .one (some 34) (.len (.t 33)) false [] <|
           .one (some 35) (.mv (.t 2)) false [] <|
           .one (some 36) (.min [(.t 35), (.c (aint 8))]) false [] <|
           .one (some 37) (.max [(.c (aint 0)), (.t 36)]) false [] <|
           .one (some 38) (.bin .add (.t 34) (.t 37)) false [] <|
           .one (some 39) (.bin .eql (.t 32) (.t 38)) false [] <|
           .nil)
          (.t 39) (.c (abool false)) <|
        .one (some 41) (.mv (.t 40)) false [] <|
        .sc 51 42 51 41 true
          (.one (some 42) (.mv (.t 11)) false [] <|
           .one (some 43) (.len (.t 42)) false [] <|
           .one (some 44) (.mv (.t 0)) false [] <|
           .one (some 45) (.len (.t 44)) false [] <|
           .one (some 46) (.bin .add (.t 45) (.c (aint 2))) false [] <|
           .one (some 47) (.mv (.t 3)) false [] <|
           .one (some 48) (.len (.t 47)) false [] <|
           .one (some 49) (.bin .add (.t 46) (.t 48)) false [] <|
           .one (some 50) (.bin .eql (.t 43) (.t 49)) false [] <|
           .nil)
          (.t 50) (.c (abool false)) <|
        .one (some 52) (.mv (.t 51)) false [] <|
        .sc 61 53 61 52 true
          (.one (some 53) (.mv (.t 10)) false [] <|
           .one (some 54) (.mv (.t 0)) false [] <|
           .one (some 55) (.len (.t 54)) false [] <|
           .one (some 56) (.slc 1 (.t 53) none (some (.t 55)) none) false [] <|
           .one (some 57) (.b2s (.t 56)) false [] <|
           .one (some 58) (.mv (.t 0)) false [] <|
           .one (some 59) (.b2s (.t 58)) false [] <|
           .one (some 60) (.bin .eql (.t 57) (.t 59)) false [] <|
           .nil)
          (.t 60) (.c (abool false)) <|
        .one (some 62) (.mv (.t 61)) false [] <|
        .sc 71 63 71 62 true
          (.one (some 63) (.mv (.t 11)) false [] <|
           .one (some 64) (.mv (.t 0)) false [] <|
           .one (some 65) (.len (.t 64)) false [] <|
           .one (some 66) (.slc 1 (.t 63) none (some (.t 65)) none) false [] <|
           .one (some 67) (.b2s (.t 66)) false [] <|
           .one (some 68) (.mv (.t 0)) false [] <|
           .one (some 69) (.b2s (.t 68)) false [] <|
           .one (some 70) (.bin .eql (.t 67) (.t 69)) false [] <|
           .nil)
          (.t 70) (.c (abool false)) <|
        .one (some 72) (.mv (.t 71)) false [] <|
        .sc 82 73 82 72 true
          (.one (some 73) (.mv (.t 11)) false [] <|
           .one (some 74) (.mv (.t 0)) false [] <|
           .one (some 75) (.len (.t 74)) false [] <|
           .one (some 76) (.bin .add (.t 75) (.c (aint 2))) false [] <|
           .one (some 77) (.slc 1 (.t 73) (some (.t 76)) none none) false [] <|
           .one (some 78) (.b2s (.t 77)) false [] <|
           .one (some 79) (.mv (.t 3)) false [] <|
           .one (some 80) (.b2s (.t 79)) false [] <|
           .one (some 81) (.bin .eql (.t 78) (.t 80)) false [] <|
           .nil)
          (.t 81) (.c (abool false)) <|
        .one (some 8) (.mv (.t 82)) false [] <|
        .nil)
       .ret)))))),
 [.tmp 8], 3, .frozen⟩
theorem godwitlaw01_EncLens_c : compFn Try.prog wrs modes 5 = some godwitlaw01_EncLens_A := by kernel_rfl

/-- godwit/godwitlaw01.EncBack -/
def godwitlaw01_EncBack_L0 : ACode :=
 (.seq
  (.seq
   (.region <|
    .one (some 32) (.mv (.t 10)) false [] <|
    .one (some 33) (.mv (.t 0)) false [] <|
    .one (some 34) (.len (.t 33)) false [] <|
    .one (some 35) (.bin .lss (.t 32) (.t 34)) false [] <|
    .nil)
   (.cond (.t 35)
    .skip
    (.exit 0)))
  (.seq
   (.block 1
    (.region <|
     .one (some 38) (.mv (.t 9)) false [] <|
     .one (some 39) (.mv (.t 0)) false [] <|
     .one (some 40) (.mv (.t 10)) false [] <|
     .one (some 41) (.ia 1 (.t 39) (.t 40)) false [] <|
     .one (some 42) (.ld false 1 (.t 41)) false [] <|
     .one (some 43) (.mv (.t 8)) false [] <|
     .one (some 44) (.call 1 (.c (.fn enc_U [] [])) [(.t 38), (.t 42), (.t 43)]) false [] <|
     .one (some 9) (.mv (.t 44)) false [] <|
     .nil))
   (.region <|
    .one (some 36) (.mv (.t 10)) false [] <|
    .one (some 37) (.bin .add (.t 36) (.c (aint 1))) false [] <|
    .one (some 10) (.mv (.t 37)) false [] <|
    .nil)))
def godwitlaw01_EncBack_L1 : ACode :=
 (.seq
  (.seq
   (.region <|
    .one (some 45) (.mv (.t 11)) false [] <|
    .one (some 46) (.mv (.t 2)) false [] <|
    .one (some 47) (.len (.t 46)) false [] <|
    .one (some 48) (.bin .lss (.t 45) (.t 47)) false [] <|
    .nil)
   (.cond (.t 48)
    .skip
    (.exit 2)))
  (.seq
   (.block 3
    (.seq
     (.seq
      (.region <|
       .one (some 51) (.mv (.t 2)) false [] <|
       .one (some 52) (.mv (.t 11)) false [] <|
       .one (some 53) (.ia 1 (.t 51) (.t 52)) false [] <|
       .one (some 54) (.ld false 1 (.t 53)) false [] <|
       .one (some 55) (.len (.t 54)) false [] <|
       .one (some 56) (.bin .gtr (.t 55) (.c (aint 300))) false [] <|
       .nil)
      (.cond (.t 56)
       (.seq
        (.region <|
         .one (some 57) (.mv (.t 7)) false [] <|
         .one (some 6) (.mv (.t 57)) false [] <|
         .nil)
        .ret)
       .skip))
     (.region <|
      .one (some 58) (.mv (.t 9)) false [] <|
      .one (some 59) (.mv (.t 2)) false [] <|
      .one (some 60) (.mv (.t 11)) false [] <|
      .one (some 61) (.ia 1 (.t 59) (.t 60)) false [] <|
      .one (some 62) (.ld false 1 (.t 61)) false [] <|
      .one (some 63) (.call 2 (.c (.fn enc_List [] [])) [(.t 58), (.t 62)]) false [] <|
      .one (some 9) (.mv (.t 63)) false [] <|
      .nil)))
   (.region <|
    .one (some 49) (.mv (.t 11)) false [] <|
    .one (some 50) (.bin .add (.t 49) (.c (aint 1))) false [] <|
    .one (some 11) (.mv (.t 50)) false [] <|
    .nil)))
def godwitlaw01_EncBack_L2 : ACode :=
 (.seq
  (.seq
   (.region <|
    .one (some 66) (.mv (.t 13)) false [] <|
    .one (some 67) (.mv (.t 0)) false [] <|
    .one (some 68) (.len (.t 67)) false [] <|
    .one (some 69) (.bin .lss (.t 66) (.t 68)) false [] <|
    .nil)
   (.cond (.t 69)
    .skip
    (.exit 4)))
  (.seq
   (.block 5
    (.seq
     (.region <|
      .one (some 72) (.mv (.t 0)) false [] <|
      .one (some 73) (.mv (.t 13)) false [] <|
      .one (some 74) (.ia 1 (.t 72) (.t 73)) false [] <|
      .one (some 75) (.ld false 1 (.t 74)) false [] <|
      .one (some 14) (.mv (.t 75)) false [] <|
      .nil)
     (.seq
      (.seq
       (.region <|
        .one (some 76) (.mv (.t 8)) false [] <|
        .one (some 77) (.bin .lss (.t 76) (.c (aint 8))) false [] <|
        .nil)
       (.cond (.t 77)
        (.region <|
         .one (some 78) (.mv (.t 14)) false [] <|
         .one (some 79) (.mv (.t 8)) false [] <|
         .one (some 80) (.bin .mul (.c (aint 8)) (.t 79)) false [] <|
         .one (some 81) (.i2i .u64 (.t 80)) false [] <|
         .one (some 82) (.bin .shl (.c (.atom (.int .u64 1))) (.t 81)) false [] <|
         .one (some 83) (.bin .sub (.t 82) (.c (.atom (.int .u64 1)))) false [] <|
         .one (some 84) (.bin .and (.t 78) (.t 83)) false [] <|
         .one (some 14) (.mv (.t 84)) false [] <|
         .nil)
        .skip))
      (.seq
       (.region <|
        .one (some 85) (.mv (.t 12)) false [] <|
        .one (some 86) (.mv (.t 8)) false [] <|
        .one (some 87) (.call 4 (.c (.fn __enc_Reader__U [] [])) [(.t 85), (.t 86)]) false [] <|
        .one (some 88) (.mv (.t 14)) false [] <|
        .one (some 89) (.bin .neq (.t 87) (.t 88)) false [] <|
        .nil)
       (.cond (.t 89)
        (.seq
         (.region <|
          .one (some 6) (.mv (.c (abool false))) false [] <|
          .nil)
         .ret)
        .skip)))))
   (.region <|
    .one (some 70) (.mv (.t 13)) false [] <|
    .one (some 71) (.bin .add (.t 70) (.c (aint 1))) false [] <|
    .one (some 13) (.mv (.t 71)) false [] <|
    .nil)))
def godwitlaw01_EncBack_L3 : ACode :=
 (.seq
  (.seq
   (.region <|
    .one (some 90) (.mv (.t 15)) false [] <|
    .one (some 91) (.mv (.t 2)) false [] <|
    .one (some 92) (.len (.t 91)) false [] <|
    .one (some 93) (.bin .lss (.t 90) (.t 92)) false [] <|
    .nil)
   (.cond (.t 93)
    .skip
    (.exit 6)))
  (.seq
   (.block 7
    (.seq
     (.region <|
      .one (some 96) (.mv (.t 12)) false [] <|
      .one (some 97) (.call 5 (.c (.fn __enc_Reader__List [] [])) [(.t 96), (.c (aint 300))]) false [] <|
      .one (some 98) (.b2s (.t 97)) false [] <|
      .one (some 99) (.mv (.t 2)) false [] <|
      .one (some 100) (.mv (.t 15)) false [] <|
      .one (some 101) (.ia 1 (.t 99) (.t 100)) false [] <|
      .one (some 102) (.ld false 1 (.t 101)) true [] <|
      .one (some 103) (.b2s (.t 102)) true [] <|
      .one (some 104) (.bin .neq (.t 98) (.t 103)) false [] <|
      .nil)
     (.cond (.t 104)
      (.seq
       (.region <|
        .one (some 6) (.mv (.c (abool false))) false [] <|
        .nil)
       .ret)
      .skip)))
   (.region <|
    .one (some 94) (.mv (.t 15)) false [] <|
    .one (some 95) (.bin .add (.t 94) (.c (aint 1))) false [] <|
    .one (some 15) (.mv (.t 95)) false [] <|
    .nil)))
def godwitlaw01_EncBack_L4 : ACode :=
 (.seq
  (.seq
   (.region <|
    .one (some 112) (.mv (.t 17)) false [] <|
    .one (some 113) (.mv (.t 0)) false [] <|
    .one (some 114) (.len (.t 113)) false [] <|
    .one (some 115) (.bin .lss (.t 112) (.t 114)) false [] <|
    .nil)
   (.cond (.t 115)
    .skip
    (.exit 8)))
  (.seq
   (.block 9
    (.region <|
     .one (some 118) (.mv (.t 16)) false [] <|
     .one (some 119) (.mv (.t 8)) false [] <|
     .one (some 120) (.call 7 (.c (.fn __enc_Reader__U [] [])) [(.t 118), (.t 119)]) false [] <|
     .nil))
   (.region <|
    .one (some 116) (.mv (.t 17)) false [] <|
    .one (some 117) (.bin .add (.t 116) (.c (aint 1))) false [] <|
    .one (some 17) (.mv (.t 117)) false [] <|
    .nil)))
def godwitlaw01_EncBack_L5 : ACode :=
 (.seq
  (.seq
   (.region <|
    .one (some 121) (.mv (.t 18)) false [] <|
    .one (some 122) (.mv (.t 2)) false [] <|
    .one (some 123) (.len (.t 122)) false [] <|
    .one (some 124) (.bin .lss (.t 121) (.t 123)) false [] <|
    .nil)
   (.cond (.t 124)
    .skip
    (.exit 10)))
  (.seq
   (.block 11
    (.region <|
     .one (some 127) (.mv (.t 16)) false [] <|
     .one (some 128) (.call 8 (.c (.fn __enc_Reader__List [] [])) [(.t 127), (.c (aint 300))]) false [] <|
     .nil))
   (.region <|
    .one (some 125) (.mv (.t 18)) false [] <|
    .one (some 126) (.bin .add (.t 125) (.c (aint 1))) false [] <|
    .one (some 18) (.mv (.t 126)) false [] <|
    .nil)))
def godwitlaw01_EncBack_A : AFun := ⟨
 (.seq
  (.region <|
   .one (some 6) (.mv (.c (abool false))) false [] <|
   .nil)
  (.seq
   (.region <|
    .one (some 19) (.call 0 (.c (.fn godwitlaw01_awake [] [])) []) false [] <|
    .one (some 7) (.mv (.t 19)) false [] <|
    .nil)
   (.seq
    (.seq
     (.region <|
      .one (some 20) (.mv (.t 0)) false [] <|
      .one (some 21) (.len (.t 20)) false [] <|
      .one (some 22) (.bin .gtr (.t 21) (.c (aint 40))) false [] <|
      .one (some 23) (.mv (.t 22)) false [] <|
      .sc 27 24 27 23 false
        (.one (some 24) (.mv (.t 2)) false [] <|
         .one (some 25) (.len (.t 24)) false [] <|
         .one (some 26) (.bin .gtr (.t 25) (.c (aint 20))) false [] <|
         .nil)
        (.c (abool true)) (.t 26) <|
      .nil)
     (.cond (.t 27)
      (.seq
       (.region <|
        .one (some 28) (.mv (.t 7)) false [] <|
        .one (some 6) (.mv (.t 28)) false [] <|
        .nil)
       .ret)
      .skip))
    (.seq
     (.region <|
      .one (some 29) (.mv (.t 1)) false [] <|
      .one (some 30) (.bin .and (.t 29) (.c (aint 7))) false [] <|
      .one (some 31) (.bin .add (.c (aint 1)) (.t 30)) false [] <|
      .one (some 8) (.mv (.t 31)) false [] <|
      .nil)
     (.seq
      (.region <|
       .one (some 9) (.mv (.c anil)) false [] <|
       .nil)
      (.seq
       (.seq
        (.region <|
         .one (some 10) (.mv (.c (aint 0))) false [] <|
         .nil)
        (.block 0
         (.loop godwitlaw01_EncBack_L0)))
       (.seq
        (.seq
         (.region <|
          .one (some 11) (.mv (.c (aint 0))) false [] <|
          .nil)
         (.block 2
          (.loop godwitlaw01_EncBack_L1)))
        (.seq
         (.region <|
          .one (some 64) (.mv (.t 9)) false [] <|
          .one (some 65) (.call 3 (.c (.fn enc_New [] [])) [(.t 64)]) false [] <|
          .one (some 12) (.mv (.t 65)) false [] <|
          .nil)
         (.seq
          (.seq
           (.region <|
            .one (some 13) (.mv (.c (aint 0))) false [] <|
            .nil)
           (.block 4
            (.loop godwitlaw01_EncBack_L2)))
          (.seq
           (.seq
            (.region <|
             .one (some 15) (.mv (.c (aint 0))) false [] <|
             .nil)
            (.block 6
             (.loop godwitlaw01_EncBack_L3)))
           (.seq
            (.region <|
             .one (some 105) (.mv (.t 9)) false [] <|
             .one (some 106) (.mv (.t 9)) false [] <|
             .one (some 107) (.len (.t 106)) false [] <|
             .one (some 108) (.bin .sub (.t 107) (.c (aint 1))) false [] <|
             .one (some 109) (.max [(.c (aint 0)), (.t 108)]) false [] <|
             .one (some 110) (.slc 1 (.t 105) none (some (.t 109)) none) false [] <|
             .one (some 111) (.call 6 (.c (.fn enc_New [] [])) [(.t 110)]) false [] <|
             .one (some 16) (.mv (.t 111)) false [] <|
             .nil)
            (.seq
             (.seq
              (.region <|
               .one (some 17) (.mv (.c (aint 0))) false [] <|
               .nil)
              (.block 8
               (.loop godwitlaw01_EncBack_L4)))
             (.seq
              (.seq
               (.region <|
                .one (some 18) (.mv (.c (aint 0))) false [] <|
                .nil)
               (.block 10
                (.loop godwitlaw01_EncBack_L5)))
              (.seq
               (.region <|
                .one (some 129) (.mv (.t 7)) false [] <|
                .one (some 130) (.mv (.t 129)) false [] <|
                .sc 134 131 134 130 true
                  (.one (some 131) (.mv (.t 12)) false [] <|
                   .one (some 132) (.call 9 (.c (.fn __enc_Reader__End [] [])) [(.t 131)]) false [] <|
                   .one (some 133) (.bin .eql (.t 132) (.c (aint 0))) false [] <|
                   .nil)
                  (.t 133) (.c (abool false)) <|
                .one (some 135) (.mv (.t 134)) false [] <|
                .sc 141 136 141 135 true
                  (.one (some 136) (.mv (.t 12)) false [] <|
                   .one (some 137) (.call 10 (.c (.fn __enc_Reader__At [] [])) [(.t 136)]) false [] <|
                   .one (some 138) (.mv (.t 9)) false [] <|
                   .one (some 139) (.len (.t 138)) false [] <|
                   .one (some 140) (.bin .eql (.t 137) (.t 139)) false [] <|
                   .nil)
                  (.t 140) (.c (abool false)) <|
                .one (some 142) (.mv (.t 141)) false [] <|
                .sc 151 143 151 142 true
                  (.one (some 143) (.mv (.t 9)) false [] <|
                   .one (some 144) (.len (.t 143)) false [] <|
                   .one (some 145) (.bin .eql (.t 144) (.c (aint 0))) false [] <|
                   .one (some 146) (.mv (.t 145)) false [] <|
                   .sc 150 147 150 146 false
                     (.one (some 147) (.mv (.t 16)) false [] <|
                      .one (some 148) (.call 11 (.c (.fn __enc_Reader__Err [] [])) [(.t 147)]) false [] <|
                      .one (some 149) (.bin .eql (.t 148) (.c (aint 2))) false [] <|
                      .nil)
                     (.c (abool true)) (.t 149) <|
                   .nil)
                  (.t 150) (.c (abool false)) <|
                .one (some 6) (.mv (.t 151)) false [] <|
                .nil)
               .ret)))))))))))))),
 [.tmp 6], 12, .frozen⟩
theorem godwitlaw01_EncBack_c : compFn Try.prog wrs modes 6 = some godwitlaw01_EncBack_A := by kernel_rfl

/-- godwit/godwitlaw01.EncReads -/
def godwitlaw01_EncReads_L0 : ACode :=
 (.seq
  (.seq
   (.region <|
    .one (some 23) (.mv (.t 8)) false [] <|
    .one (some 24) (.mv (.t 1)) false [] <|
    .one (some 25) (.len (.t 24)) false [] <|
    .one (some 26) (.bin .lss (.t 23) (.t 25)) false [] <|
    .nil)
   (.cond (.t 26)
    .skip
    (.exit 0)))
  (.seq
   (.block 1
    (.seq
     (.seq
      (.region <|
       .one (some 29) (.mv (.t 1)) false [] <|
       .one (some 30) (.mv (.t 8)) false [] <|
       .one (some 31) (.ia 2 (.t 29) (.t 30)) false [] <|
       .one (some 32) (.fa 0 (.t 31)) false [] <|
       .one (some 33) (.ld false 1 (.t 32)) false [] <|
       .nil)
      (.block 2
       (.seq
        (.seq
         (.region <|
          .one (some 35) (.bin .eql (.t 33) (.c (aint 0))) false [] <|
          .one (some 34) (.mv (.t 35)) false [] <|
          .nil)
         (.cond (.t 34)
          .skip
          (.region <|
           .one (some 36) (.bin .eql (.t 33) (.c (aint 1))) false [] <|
           .one (some 34) (.mv (.t 36)) false [] <|
           .nil)))
        (.cond (.t 34)
         (.seq
          (.region <|
           .one (some 37) (.mv (.t 6)) false [] <|
           .one (some 38) (.mv (.t 1)) false [] <|
           .one (some 39) (.mv (.t 8)) false [] <|
           .one (some 40) (.ia 2 (.t 38) (.t 39)) false [] <|
           .one (some 41) (.fa 1 (.t 40)) false [] <|
           .one (some 42) (.ld false 1 (.t 41)) false [] <|
           .one (some 43) (.call 3 (.c (.fn __enc_Reader__U [] [])) [(.t 37), (.t 42)]) false [] <|
           .one (some 44) (.mv (.t 7)) false [] <|
           .one (some 45) (.mv (.t 1)) false [] <|
           .one (some 46) (.mv (.t 8)) false [] <|
           .one (some 47) (.ia 2 (.t 45) (.t 46)) false [] <|
           .one (some 48) (.fa 1 (.t 47)) false [] <|
           .one (some 49) (.ld false 1 (.t 48)) true [] <|
           .one (some 50) (.call 4 (.c (.fn __godwitref01_Reader__U [] [])) [(.t 44), (.t 49)]) false [] <|
           .one (some 51) (.bin .neq (.t 43) (.t 50)) false [] <|
           .nil)
          (.cond (.t 51)
           (.seq
            (.region <|
             .one (some 4) (.mv (.c (abool false))) false [] <|
             .nil)
            .ret)
           .skip))
         (.seq
          (.region <|
           .one (some 53) (.bin .eql (.t 33) (.c (aint 2))) false [] <|
           .one (some 52) (.mv (.t 53)) false [] <|
           .nil)
          (.cond (.t 52)
           (.seq
            (.region <|
             .one (some 54) (.mv (.t 6)) false [] <|
             .one (some 55) (.mv (.t 1)) false [] <|
             .one (some 56) (.mv (.t 8)) false [] <|
             .one (some 57) (.ia 2 (.t 55) (.t 56)) false [] <|
             .one (some 58) (.fa 1 (.t 57)) false [] <|
             .one (some 59) (.ld false 1 (.t 58)) false [] <|
             .one (some 60) (.call 5 (.c (.fn __enc_Reader__List [] [])) [(.t 54), (.t 59)]) false [] <|
             .one (some 61) (.b2s (.t 60)) true [] <|
             .one (some 62) (.mv (.t 7)) false [] <|
             .one (some 63) (.mv (.t 1)) false [] <|
             .one (some 64) (.mv (.t 8)) false [] <|
             .one (some 65) (.ia 2 (.t 63) (.t 64)) false [] <|
             .one (some 66) (.fa 1 (.t 65)) false [] <|
             .one (some 67) (.ld false 1 (.t 66)) true [] <|
             .one (some 68) (.call 6 (.c (.fn __godwitref01_Reader__List [] [])) [(.t 62), (.t 67)]) false [] <|
             .one (some 69) (.b2s (.t 68)) false [] <|
             .one (some 70) (.bin .neq (.t 61) (.t 69)) false [] <|
             .nil)
            (.cond (.t 70)
             (.seq
              (.region <|
               .one (some 4) (.mv (.c (abool false))) false [] <|
               .nil)
              .ret)
             .skip))
           (.seq
            (.region <|
             .one (some 72) (.bin .eql (.t 33) (.c (aint 3))) false [] <|
             .one (some 71) (.mv (.t 72)) false [] <|
             .nil)
            (.cond (.t 71)
             (.seq
              (.region <|
               .one (some 73) (.mv (.t 6)) false [] <|
               .one (some 74) (.call 7 (.c (.fn __enc_Reader__Flag [] [])) [(.t 73)]) false [] <|
               .one (some 75) (.mv (.t 7)) false [] <|
               .one (some 76) (.call 8 (.c (.fn __godwitref01_Reader__Flag [] [])) [(.t 75)]) false [] <|
               .one (some 77) (.beq true (.t 74) (.t 76)) false [] <|
               .nil)
              (.cond (.t 77)
               (.seq
                (.region <|
                 .one (some 4) (.mv (.c (abool false))) false [] <|
                 .nil)
                .ret)
               .skip))
             (.seq
              (.region <|
               .one (some 79) (.bin .eql (.t 33) (.c (aint 4))) false [] <|
               .one (some 78) (.mv (.t 79)) false [] <|
               .nil)
              (.cond (.t 78)
               (.seq
                (.region <|
                 .one (some 80) (.mv (.t 6)) false [] <|
                 .one (some 81) (.mv (.t 1)) false [] <|
                 .one (some 82) (.mv (.t 8)) false [] <|
                 .one (some 83) (.ia 2 (.t 81) (.t 82)) false [] <|
                 .one (some 84) (.fa 1 (.t 83)) false [] <|
                 .one (some 85) (.ld false 1 (.t 84)) false [] <|
                 .one (some 86) (.call 9 (.c (.fn __enc_Reader__Fail [] [])) [(.t 80), (.t 85)]) false [] <|
                 .nil)
                (.region <|
                 .one (some 87) (.mv (.t 7)) false [] <|
                 .one (some 88) (.mv (.t 1)) false [] <|
                 .one (some 89) (.mv (.t 8)) false [] <|
                 .one (some 90) (.ia 2 (.t 88) (.t 89)) false [] <|
                 .one (some 91) (.fa 1 (.t 90)) false [] <|
                 .one (some 92) (.ld false 1 (.t 91)) false [] <|
                 .one (some 93) (.call 10 (.c (.fn __godwitref01_Reader__Fail [] [])) [(.t 87), (.t 92)]) false [] <|
                 .nil))
               .skip))))))))))
     (.seq
      (.region <|
       .one (some 94) (.mv (.t 6)) false [] <|
       .one (some 95) (.call 11 (.c (.fn __enc_Reader__Err [] [])) [(.t 94)]) true [] <|
       .one (some 96) (.mv (.t 7)) false [] <|
       .one (some 97) (.nilc (.t 96)) false [] <|
       .one (some 98) (.fa 2 (.t 97)) false [] <|
       .one (some 99) (.ld false 1 (.t 98)) false [11] <|
       .one (some 100) (.bin .neq (.t 95) (.t 99)) false [] <|
       .one (some 101) (.mv (.t 100)) false [] <|
       .sc 109 102 109 101 false
         (.one (some 102) (.mv (.t 6)) false [] <|
          .one (some 103) (.call 12 (.c (.fn __enc_Reader__At [] [])) [(.t 102)]) true [] <|
          .one (some 104) (.mv (.t 7)) false [] <|
          .one (some 105) (.nilc (.t 104)) false [] <|
          .one (some 106) (.fa 1 (.t 105)) false [] <|
          .one (some 107) (.ld false 1 (.t 106)) false [12] <|
          .one (some 108) (.bin .neq (.t 103) (.t 107)) false [] <|
          .nil)
         (.c (abool true)) (.t 108) <|
       .one (some 110) (.mv (.t 109)) false [] <|
       .sc 116 111 116 110 false
         (.one (some 111) (.mv (.t 6)) false [] <|
          .one (some 112) (.call 13 (.c (.fn __enc_Reader__End [] [])) [(.t 111)]) false [] <|
          .one (some 113) (.mv (.t 7)) false [] <|
          .one (some 114) (.call 14 (.c (.fn __godwitref01_Reader__End [] [])) [(.t 113)]) false [] <|
          .one (some 115) (.bin .neq (.t 112) (.t 114)) false [] <|
          .nil)
         (.c (abool true)) (.t 115) <|
       .nil)
      (.cond (.t 116)
       (.seq
        (.region <|
         .one (some 4) (.mv (.c (abool false))) false [] <|
         .nil)
        .ret)
       .skip))))
   (.region <|
    .one (some 27) (.mv (.t 8)) false [] <|
    .one (some 28) (.bin .add (.t 27) (.c (aint 1))) false [] <|
    .one (some 8) (.mv (.t 28)) false [] <|
    .nil)))
def godwitlaw01_EncReads_A : AFun := ⟨
 (.seq
  (.region <|
   .one (some 4) (.mv (.c (abool false))) false [] <|
   .nil)
  (.seq
   (.region <|
    .one (some 9) (.call 0 (.c (.fn godwitlaw01_awake [] [])) []) false [] <|
    .one (some 5) (.mv (.t 9)) false [] <|
    .nil)
   (.seq
    (.seq
     (.region <|
      .one (some 10) (.mv (.t 0)) false [] <|
      .one (some 11) (.len (.t 10)) false [] <|
      .one (some 12) (.bin .gtr (.t 11) (.c (aint 500))) false [] <|
      .one (some 13) (.mv (.t 12)) false [] <|
      .sc 17 14 17 13 false
        (.one (some 14) (.mv (.t 1)) false [] <|
         .one (some 15) (.len (.t 14)) false [] <|
         .one (some 16) (.bin .gtr (.t 15) (.c (aint 100))) false [] <|
         .nil)
        (.c (abool true)) (.t 16) <|
      .nil)
     (.cond (.t 17)
      (.seq
       (.region <|
        .one (some 18) (.mv (.t 5)) false [] <|
        .one (some 4) (.mv (.t 18)) false [] <|
        .nil)
       .ret)
      .skip))
    (.seq
     (.region <|
      .one (some 19) (.mv (.t 0)) false [] <|
      .one (some 20) (.call 1 (.c (.fn enc_New [] [])) [(.t 19)]) false [] <|
      .one (some 6) (.mv (.t 20)) false [] <|
      .nil)
     (.seq
      (.region <|
       .one (some 21) (.mv (.t 0)) false [] <|
       .one (some 22) (.call 2 (.c (.fn godwitref01_New [] [])) [(.t 21)]) false [] <|
       .one (some 7) (.mv (.t 22)) false [] <|
       .nil)
      (.seq
       (.seq
        (.region <|
         .one (some 8) (.mv (.c (aint 0))) false [] <|
         .nil)
        (.block 0
         (.loop godwitlaw01_EncReads_L0)))
       (.seq
        (.region <|
         .one (some 117) (.mv (.t 5)) false [] <|
         .one (some 4) (.mv (.t 117)) false [] <|
         .nil)
        .ret))))))),
 [.tmp 4], 15, .frozen⟩
theorem godwitlaw01_EncReads_c : compFn Try.prog wrs modes 7 = some godwitlaw01_EncReads_A := by kernel_rfl

/-- godwit/godwitlaw01.EncStays -/
def godwitlaw01_EncStays_L0 : ACode :=
 (.seq
  (.seq
   (.region <|
    .one (some 31) (.mv (.t 9)) false [] <|
    .one (some 32) (.mv (.t 1)) false [] <|
    .one (some 33) (.len (.t 32)) false [] <|
    .one (some 34) (.bin .lss (.t 31) (.t 33)) false [] <|
    .nil)
   (.cond (.t 34)
    .skip
    (.exit 0)))
  (.seq
   (.block 1
    (.region <|
     .one (some 37) (.mv (.t 8)) false [] <|
     .one (some 38) (.mv (.t 1)) false [] <|
     .one (some 39) (.mv (.t 9)) false [] <|
     .one (some 40) (.ia 2 (.t 38) (.t 39)) false [] <|
     .one (some 41) (.ld true 2 (.t 40)) false [] <|
     .one (some 42) (.call 2 (.c (.fn godwitlaw01_step [] [])) [(.t 37), (.t 41)]) false [] <|
     .nil))
   (.region <|
    .one (some 35) (.mv (.t 9)) false [] <|
    .one (some 36) (.bin .add (.t 35) (.c (aint 1))) false [] <|
    .one (some 9) (.mv (.t 36)) false [] <|
    .nil)))
def godwitlaw01_EncStays_L1 : ACode :=
 (.seq
  (.seq
   (.region <|
    .one (some 80) (.mv (.t 13)) false [] <|
    .one (some 81) (.mv (.t 2)) false [] <|
    .one (some 82) (.len (.t 81)) false [] <|
    .one (some 83) (.bin .lss (.t 80) (.t 82)) false [] <|
    .nil)
   (.cond (.t 83)
    .skip
    (.exit 2)))
  (.seq
   (.block 3
    (.seq
     (.region <|
      .one (some 86) (.mv (.t 8)) false [] <|
      .one (some 87) (.mv (.t 2)) false [] <|
      .one (some 88) (.mv (.t 13)) false [] <|
      .one (some 89) (.ia 2 (.t 87) (.t 88)) false [] <|
      .one (some 90) (.ld true 2 (.t 89)) false [] <|
      .one (some 91) (.call 12 (.c (.fn godwitlaw01_step [] [])) [(.t 86), (.t 90)]) false [] <|
      .one (some 92) (.mv (.t 91)) false [] <|
      .sc 97 93 97 92 false
        (.one (some 93) (.mv (.t 8)) false [] <|
         .one (some 94) (.call 13 (.c (.fn __enc_Reader__Err [] [])) [(.t 93)]) false [] <|
         .one (some 95) (.mv (.t 10)) false [] <|
         .one (some 96) (.bin .neq (.t 94) (.t 95)) false [] <|
         .nil)
        (.c (abool true)) (.t 96) <|
      .one (some 98) (.mv (.t 97)) false [] <|
      .sc 103 99 103 98 false
        (.one (some 99) (.mv (.t 8)) false [] <|
         .one (some 100) (.call 14 (.c (.fn __enc_Reader__At [] [])) [(.t 99)]) false [] <|
         .one (some 101) (.mv (.t 11)) false [] <|
         .one (some 102) (.bin .neq (.t 100) (.t 101)) false [] <|
         .nil)
        (.c (abool true)) (.t 102) <|
      .one (some 104) (.mv (.t 103)) false [] <|
      .sc 109 105 109 104 false
        (.one (some 105) (.mv (.t 8)) false [] <|
         .one (some 106) (.call 15 (.c (.fn __enc_Reader__End [] [])) [(.t 105)]) false [] <|
         .one (some 107) (.mv (.t 10)) false [] <|
         .one (some 108) (.bin .neq (.t 106) (.t 107)) false [] <|
         .nil)
        (.c (abool true)) (.t 108) <|
      .nil)
     (.cond (.t 109)
      (.seq
       (.region <|
        .one (some 6) (.mv (.c (abool false))) false [] <|
        .nil)
       .ret)
      .skip)))
   (.region <|
    .one (some 84) (.mv (.t 13)) false [] <|
    .one (some 85) (.bin .add (.t 84) (.c (aint 1))) false [] <|
    .one (some 13) (.mv (.t 85)) false [] <|
    .nil)))
def godwitlaw01_EncStays_A : AFun := ⟨
 (.seq
  (.region <|
   .one (some 6) (.mv (.c (abool false))) false [] <|
   .nil)
  (.seq
   (.region <|
    .one (some 14) (.call 0 (.c (.fn godwitlaw01_awake [] [])) []) false [] <|
    .one (some 7) (.mv (.t 14)) false [] <|
    .nil)
   (.seq
    (.seq
     (.region <|
      .one (some 15) (.mv (.t 0)) false [] <|
      .one (some 16) (.len (.t 15)) false [] <|
      .one (some 17) (.bin .gtr (.t 16) (.c (aint 500))) false [] <|
      .one (some 18) (.mv (.t 17)) false [] <|
      .sc 22 19 22 18 false
        (.one (some 19) (.mv (.t 1)) false [] <|
         .one (some 20) (.len (.t 19)) false [] <|
         .one (some 21) (.bin .gtr (.t 20) (.c (aint 50))) false [] <|
         .nil)
        (.c (abool true)) (.t 21) <|
      .one (some 23) (.mv (.t 22)) false [] <|
      .sc 27 24 27 23 false
        (.one (some 24) (.mv (.t 2)) false [] <|
         .one (some 25) (.len (.t 24)) false [] <|
         .one (some 26) (.bin .gtr (.t 25) (.c (aint 50))) false [] <|
         .nil)
        (.c (abool true)) (.t 26) <|
      .nil)
     (.cond (.t 27)
      (.seq
       (.region <|
        .one (some 28) (.mv (.t 7)) false [] <|
        .one (some 6) (.mv (.t 28)) false [] <|
        .nil)
       .ret)
      .skip))
    (.seq
     (.region <|
      .one (some 29) (.mv (.t 0)) false [] <|
      .one (some 30) (.call 1 (.c (.fn enc_New [] [])) [(.t 29)]) false [] <|
      .one (some 8) (.mv (.t 30)) false [] <|
      .nil)
     (.seq
      (.seq
       (.region <|
        .one (some 9) (.mv (.c (aint 0))) false [] <|
        .nil)
       (.block 0
        (.loop godwitlaw01_EncStays_L0)))
      (.seq
       (.region <|
        .one (some 43) (.mv (.t 8)) false [] <|
        .one (some 44) (.call 3 (.c (.fn __enc_Reader__Err [] [])) [(.t 43)]) false [] <|
        .one (some 10) (.mv (.t 44)) false [] <|
        .nil)
       (.seq
        (.region <|
         .one (some 45) (.mv (.t 8)) false [] <|
         .one (some 46) (.call 4 (.c (.fn __enc_Reader__At [] [])) [(.t 45)]) false [] <|
         .one (some 11) (.mv (.t 46)) false [] <|
         .nil)
        (.seq
         (.region <|
          .one (some 12) (.mv (.c (.atom (.pointer none)))) false [] <|
          .nil)
         (.seq
          (.region <|
           .one (some 47) (.mv (.t 12)) false [] <|
           .one (some 48) (.call 5 (.c (.fn __enc_Reader__Fail [] [])) [(.t 47), (.c (aint 3))]) false [] <|
           .nil)
          (.seq
           (.seq
            (.region <|
             .one (some 49) (.mv (.t 12)) false [] <|
             .one (some 50) (.call 6 (.c (.fn __enc_Reader__U [] [])) [(.t 49), (.c (aint 1))]) false [] <|
             .one (some 51) (.bin .neq (.t 50) (.c (.atom (.int .u64 0)))) false [] <|
             .one (some 52) (.mv (.t 51)) false [] <|
             .sc 57 53 57 52 false
               (.one (some 53) (.mv (.t 12)) false [] <|
                .one (some 54) (.call 7 (.c (.fn __enc_Reader__List [] [])) [(.t 53), (.c (aint 5))]) false [] <|
                .one (some 55) (.len (.t 54)) false [] <|
                .one (some 56) (.bin .neq (.t 55) (.c (aint 0))) false [] <|
                .nil)
               (.c (abool true)) (.t 56) <|
             .one (some 58) (.mv (.t 57)) false [] <|
             .sc 61 59 61 58 false
               (.one (some 59) (.mv (.t 12)) false [] <|
                .one (some 60) (.call 8 (.c (.fn __enc_Reader__Flag [] [])) [(.t 59)]) false [] <|
                .nil)
               (.c (abool true)) (.t 60) <|
             .one (some 62) (.mv (.t 61)) false [] <|
             .sc 66 63 66 62 false
               (.one (some 63) (.mv (.t 12)) false [] <|
                .one (some 64) (.call 9 (.c (.fn __enc_Reader__Err [] [])) [(.t 63)]) false [] <|
                .one (some 65) (.bin .neq (.t 64) (.c (aint 1))) false [] <|
                .nil)
               (.c (abool true)) (.t 65) <|
             .one (some 67) (.mv (.t 66)) false [] <|
             .sc 71 68 71 67 false
               (.one (some 68) (.mv (.t 12)) false [] <|
                .one (some 69) (.call 10 (.c (.fn __enc_Reader__End [] [])) [(.t 68)]) false [] <|
                .one (some 70) (.bin .neq (.t 69) (.c (aint 1))) false [] <|
                .nil)
               (.c (abool true)) (.t 70) <|
             .one (some 72) (.mv (.t 71)) false [] <|
             .sc 76 73 76 72 false
               (.one (some 73) (.mv (.t 12)) false [] <|
                .one (some 74) (.call 11 (.c (.fn __enc_Reader__At [] [])) [(.t 73)]) false [] <|
                .one (some 75) (.bin .neq (.t 74) (.c (aint 0))) false [] <|
                .nil)
               (.c (abool true)) (.t 75) <|
             .nil)
            (.cond (.t 76)
             (.seq
              (.region <|
               .one (some 6) (.mv (.c (abool false))) false [] <|
               .nil)
              .ret)
             .skip))
           (.seq
            (.seq
             (.region <|
              .one (some 77) (.mv (.t 10)) false [] <|
              .one (some 78) (.bin .eql (.t 77) (.c (aint 0))) false [] <|
              .nil)
             (.cond (.t 78)
              (.seq
               (.region <|
                .one (some 79) (.mv (.t 7)) false [] <|
                .one (some 6) (.mv (.t 79)) false [] <|
                .nil)
               .ret)
              .skip))
            (.seq
             (.seq
              (.region <|
               .one (some 13) (.mv (.c (aint 0))) false [] <|
               .nil)
              (.block 2
               (.loop godwitlaw01_EncStays_L1)))
             (.seq
              (.region <|
               .one (some 110) (.mv (.t 7)) false [] <|
               .one (some 6) (.mv (.t 110)) false [] <|
               .nil)
              .ret))))))))))))),
 [.tmp 6], 16, .frozen⟩
theorem godwitlaw01_EncStays_c : compFn Try.prog wrs modes 8 = some godwitlaw01_EncStays_A := by kernel_rfl

/-- godwit/godwitlaw01.awake -/
def godwitlaw01_awake_A : AFun := ⟨
 (.seq
  (.region <|
   .one (some 0) (.mv (.c (abool false))) false [] <|
   .nil)
  (.seq
   (.region <|
    .one (some 4) (.call 0 (.c (.fn enc_U [] [])) [(.c anil), (.c (.atom (.int .u64 4660))), (.c (aint 2))]) false [] <|
    .one (some 1) (.mv (.t 4)) false [] <|
    .nil)
   (.seq
    (.region <|
     .one (some 5) (.mv (.t 1)) false [] <|
     .one (some 6) (.call 1 (.c (.fn enc_New [] [])) [(.t 5)]) false [] <|
     .one (some 2) (.mv (.t 6)) false [] <|
     .nil)
    (.seq
     (.region <|
      .one (some 7) (.mv (.t 2)) false [] <|
      .one (some 8) (.call 2 (.c (.fn __enc_Reader__U [] [])) [(.t 7), (.c (aint 2))]) false [] <|
      .one (some 3) (.mv (.t 8)) false [] <|
      .nil)
     (.seq
      (.region <|
       .one (some 9) (.mv (.t 1)) false [] <|
       .one (some 10) (.len (.t 9)) false [] <|
       .one (some 11) (.bin .eql (.t 10) (.c (aint 2))) false [] <|
       .one (some 12) (.mv (.t 11)) false [] <|
       .sc 17 13 17 12 true
         (.one (some 13) (.mv (.t 1)) false [] <|
          .one (some 14) (.ia 1 (.t 13) (.c (aint 0))) false [] <|
          .one (some 15) (.ld false 1 (.t 14)) false [] <|
          .one (some 16) (.bin .eql (.t 15) (.c (.atom (.int .u8 52)))) false [] <|
          .nil)
         (.t 16) (.c (abool false)) <|
       .one (some 18) (.mv (.t 17)) false [] <|
       .sc 23 19 23 18 true
         (.one (some 19) (.mv (.t 1)) false [] <|
          .one (some 20) (.ia 1 (.t 19) (.c (aint 1))) false [] <|
          .one (some 21) (.ld false 1 (.t 20)) false [] <|
          .one (some 22) (.bin .eql (.t 21) (.c (.atom (.int .u8 18)))) false [] <|
          .nil)
         (.t 22) (.c (abool false)) <|
       .one (some 24) (.mv (.t 23)) false [] <|
       .sc 27 25 27 24 true
         (.one (some 25) (.mv (.t 3)) false [] <|
          .one (some 26) (.bin .eql (.t 25) (.c (.atom (.int .u64 4660)))) false [] <|
          .nil)
         (.t 26) (.c (abool false)) <|
       .one (some 28) (.mv (.t 27)) false [] <|
       .sc 32 29 32 28 true
         (.one (some 29) (.mv (.t 2)) false [] <|
          .one (some 30) (.call 3 (.c (.fn __enc_Reader__End [] [])) [(.t 29)]) false [] <|
          .one (some 31) (.bin .eql (.t 30) (.c (aint 0))) false [] <|
          .nil)
         (.t 31) (.c (abool false)) <|
       .one (some 33) (.mv (.t 32)) false [] <|
       .sc 37 34 37 33 true
         (.one (some 34) (.mv (.t 2)) false [] <|
          .one (some 35) (.call 4 (.c (.fn __enc_Reader__At [] [])) [(.t 34)]) false [] <|
          .one (some 36) (.bin .eql (.t 35) (.c (aint 2))) false [] <|
          .nil)
         (.t 36) (.c (abool false)) <|
       .one (some 0) (.mv (.t 37)) false [] <|
       .nil)
      .ret))))),
 [.tmp 0], 5, .frozen⟩
theorem godwitlaw01_awake_c : compFn Try.prog wrs modes 9 = some godwitlaw01_awake_A := by kernel_rfl

/-- godwit/enc.New -/
def enc_New_A : AFun := ⟨
 (.seq
  (.region <|
   .one (some 1) (.box 0 (.t 0)) false [] <|
   .one (some 2) (.mv (.c (.atom (.pointer none)))) false [] <|
   .nil)
  (.seq
   (.region <|
    .one (some 4) (.ld false 1 (.t 1)) false [] <|
    .one (some 5) (.bld [anil, (aint 0), (aint 0), (.atom .nilFunc)] [(0, 1, (.t 4))]) false [] <|
    .one (some 6) (.box 1 (.t 5)) false [] <|
    .one (some 3) (.alloc 2 (.atom (.pointer none))) false [] <|
    .one none (.st 1 (.t 3) (.t 6)) false [] <|
    .nil)
   (.seq
    (.region <|
     .one (some 7) (.ld false 1 (.t 3)) false [] <|
     .one (some 8) (.mkfn enc_New_1 [] [(.t 1), (.t 3)]) false [] <|
     .one (some 9) (.nilc (.t 7)) false [] <|
     .one (some 10) (.fa 3 (.t 9)) false [] <|
     .one none (.st 1 (.t 10) (.t 8)) false [] <|
     .nil)
    (.seq
     (.region <|
      .one (some 11) (.ld false 1 (.t 3)) false [] <|
      .one (some 2) (.mv (.t 11)) false [] <|
      .nil)
     .ret)))),
 [.tmp 2], 3, .escape⟩
theorem enc_New_c : compFn Try.prog wrs modes 10 = some enc_New_A := by kernel_rfl

/-- (*godwit/enc.Reader).U -/
def __enc_Reader__U_L0 : ACode :=
 (.seq
  (.region <|
   .one (some 28) (.bin .lss (.t 27) (.t 26)) false [] <|
   .nil)
  (.seq
   (.cond (.t 28)
    .skip
    (.exit 1))
   (.seq
    (.block 2
     (.seq
      (.region <|
       .one (some 29) (.mv (.t 27)) false [] <|
       .one (some 30) (.ia 1 (.t 25) (.t 27)) false [] <|
       .one (some 31) (.ld false 1 (.t 30)) false [] <|
       .one (some 6) (.mv (.t 29)) false [] <|
       .one (some 7) (.mv (.t 31)) false [] <|
       .nil)
      (.region <|
       .one (some 32) (.mv (.t 5)) false [] <|
       .one (some 33) (.mv (.t 7)) false [] <|
       .one (some 34) (.i2i .u64 (.t 33)) false [] <|
       .one (some 35) (.mv (.t 6)) false [] <|
       .one (some 36) (.bin .mul (.c (aint 8)) (.t 35)) false [] <|
       .one (some 37) (.bin .shl (.t 34) (.t 36)) false [] <|
       .one (some 38) (.bin .or (.t 32) (.t 37)) false [] <|
       .one (some 5) (.mv (.t 38)) false [] <|
       .nil)))
    (.region <|
     .one (some 39) (.bin .add (.t 27) (.c (aint 1))) false [] <|
     .one (some 27) (.mv (.t 39)) false [] <|
     .nil))))
def __enc_Reader__U_A : AFun := ⟨
 (.seq
  (.region <|
   .one (some 4) (.mv (.c (.atom (.int .u64 0)))) false [] <|
   .nil)
  (.seq
   (.block 0
    (.seq
     (.region <|
      .one (some 9) (.mv (.t 0)) false [] <|
      .one (some 10) (.isnil .ptr false (.t 9)) false [] <|
      .one (some 8) (.mv (.t 10)) false [] <|
      .nil)
     (.cond (.t 8)
      (.seq
       (.region <|
        .one (some 4) (.mv (.c (.atom (.int .u64 0)))) false [] <|
        .nil)
       .ret)
      (.seq
       (.region <|
        .one (some 12) (.mv (.t 1)) false [] <|
        .one (some 13) (.bin .lss (.t 12) (.c (aint 1))) false [] <|
        .one (some 14) (.mv (.t 13)) false [] <|
        .sc 17 15 17 14 false
          (.one (some 15) (.mv (.t 1)) false [] <|
           .one (some 16) (.bin .gtr (.t 15) (.c (aint 8))) false [] <|
           .nil)
          (.c (abool true)) (.t 16) <|
        .one (some 11) (.mv (.t 17)) false [] <|
        .nil)
       (.cond (.t 11)
        (.seq
         (.region <|
          .one (some 18) (.mv (.t 0)) false [] <|
          .one (some 19) (.call 0 (.c (.fn __enc_Reader__Fail [] [])) [(.t 18), (.c (aint 1))]) false [] <|
          .nil)
         (.seq
          (.region <|
           .one (some 4) (.mv (.c (.atom (.int .u64 0)))) false [] <|
           .nil)
          .ret))
        .skip)))))
   (.seq
    (.region <|
     .one (some 5) (.mv (.c (.atom (.int .u64 0)))) false [] <|
     .nil)
    (.seq
     (.seq
      (.region <|
       .one (some 20) (.mv (.t 0)) false [] <|
       .one (some 21) (.nilc (.t 20)) false [] <|
       .one (some 22) (.fa 3 (.t 21)) false [] <|
       .one (some 23) (.ld false 1 (.t 22)) false [] <|
       .one (some 24) (.mv (.t 1)) false [] <|
       .one (some 25) (.call 1 (.t 23) [(.t 24)]) false [] <|
       .one (some 26) (.len (.t 25)) false [] <|
       .one (some 27) (.mv (.c (aint 0))) false [] <|
       .nil)
      (.block 1
       (.loop __enc_Reader__U_L0)))
     (.seq
      (.region <|
       .one (some 40) (.mv (.t 5)) false [] <|
       .one (some 4) (.mv (.t 40)) false [] <|
       .nil)
      .ret))))),
 [.tmp 4], 2, .frozen⟩
theorem __enc_Reader__U_c : compFn Try.prog wrs modes 11 = some __enc_Reader__U_A := by kernel_rfl

/-- (*godwit/enc.Reader).At -/
def __enc_Reader__At_A : AFun := ⟨
 (.seq
  (.region <|
   .one (some 2) (.mv (.c (aint 0))) false [] <|
   .nil)
  (.seq
   (.seq
    (.region <|
     .one (some 3) (.mv (.t 0)) false [] <|
     .one (some 4) (.isnil .ptr false (.t 3)) false [] <|
     .nil)
    (.cond (.t 4)
     (.seq
      (.region <|
       .one (some 2) (.mv (.c (aint 0))) false [] <|
       .nil)
      .ret)
     .skip))
   (.seq
    (.region <|
     .one (some 5) (.mv (.t 0)) false [] <|
     .one (some 6) (.nilc (.t 5)) false [] <|
     .one (some 7) (.fa 1 (.t 6)) false [] <|
     .one (some 8) (.ld false 1 (.t 7)) false [] <|
     .one (some 2) (.mv (.t 8)) false [] <|
     .nil)
    .ret))),
 [.tmp 2], 0, .frozen⟩
theorem __enc_Reader__At_c : compFn Try.prog wrs modes 12 = some __enc_Reader__At_A := by kernel_rfl

/-- godwit/enc.U -/
def enc_U_L0 : ACode :=
 (.seq
  (.region <|
   .one (some 14) (.bin .lss (.t 13) (.t 12)) false [] <|
   .nil)
  (.seq
   (.cond (.t 14)
    .skip
    (.exit 0))
   (.seq
    (.block 1
     (.seq
      (.region <|
       .one (some 15) (.mv (.t 13)) false [] <|
       .one (some 8) (.mv (.t 15)) false [] <|
       .nil)
      (.region <|
       .one (some 16) (.mv (.t 7)) false [] <|
       .one (some 17) (.mv (.t 1)) false [] <|
       .one (some 18) (.mv (.t 8)) false [] <|
       .one (some 19) (.bin .mul (.c (aint 8)) (.t 18)) false [] <|
       .one (some 20) (.bin .shr (.t 17) (.t 19)) false [] <|
       .one (some 21) (.i2i .u8 (.t 20)) false [] <|
       .one (some 22) (.bsl 1 (.atom (.int .u8 0)) 1 [(0, (.t 21))]) false [] <|
       .one (some 23) (.app 2 1 1 (.t 16) (.t 22)) false [] <|
       .one (some 7) (.mv (.t 23)) false [] <|
       .nil)))
    (.region <|
     .one (some 24) (.bin .add (.t 13) (.c (aint 1))) false [] <|
     .one (some 13) (.mv (.t 24)) false [] <|
     .nil))))
def enc_U_A : AFun := ⟨
 (.seq
  (.region <|
   .one (some 6) (.mv (.c anil)) false [] <|
   .nil)
  (.seq
   (.region <|
    .one (some 9) (.mv (.t 0)) false [] <|
    .one (some 10) (.call 0 (.c (.fn bytes_Clone [] [])) [(.t 9)]) false [] <|
    .one (some 7) (.mv (.t 10)) false [] <|
    .nil)
   (.seq
    (.seq
     (.region <|
      .one (some 11) (.mv (.t 2)) false [] <|
      .one (some 12) (.min [(.t 11), (.c (aint 8))]) false [] <|
      .one (some 13) (.mv (.c (aint 0))) false [] <|
      .nil)
     (.block 0
      (.loop enc_U_L0)))
    (.seq
     (.region <|
      .one (some 25) (.mv (.t 7)) false [] <|
      .one (some 6) (.mv (.t 25)) false [] <|
      .nil)
     .ret)))),
 [.tmp 6], 3, .own⟩
theorem enc_U_c : compFn Try.prog wrs modes 13 = some enc_U_A := by kernel_rfl

/-- godwit/godwitref01.U -/
def godwitref01_U_L0 : ACode :=
 (.seq
  (.seq
   (.region <|
    .one (some 12) (.mv (.t 8)) false [] <|
    .one (some 13) (.mv (.t 2)) false [] <|
    .one (some 14) (.bin .lss (.t 12) (.t 13)) false [] <|
    .one (some 15) (.mv (.t 14)) false [] <|
    .sc 18 16 18 15 true
      (.one (some 16) (.mv (.t 8)) false [] <|
       .one (some 17) (.bin .lss (.t 16) (.c (aint 8))) false [] <|
       .nil)
      (.t 17) (.c (abool false)) <|
    .nil)
   (.cond (.t 18)
    .skip
    (.exit 0)))
  (.seq
   (.block 1
    (.seq
     (.region <|
      .one (some 21) (.mv (.t 7)) false [] <|
      .one (some 22) (.mv (.t 1)) false [] <|
      .one (some 23) (.bin .rem (.t 22) (.c (.atom (.int .u64 256)))) false [] <|
      .one (some 24) (.i2i .u8 (.t 23)) false [] <|
      .one (some 25) (.bsl 2 (.atom (.int .u8 0)) 1 [(0, (.t 24))]) false [] <|
      .one (some 26) (.app 3 1 1 (.t 21) (.t 25)) false [] <|
      .one (some 7) (.mv (.t 26)) false [] <|
      .nil)
     (.region <|
      .one (some 27) (.mv (.t 1)) false [] <|
      .one (some 28) (.bin .quo (.t 27) (.c (.atom (.int .u64 256)))) false [] <|
      .one (some 1) (.mv (.t 28)) false [] <|
      .nil)))
   (.region <|
    .one (some 19) (.mv (.t 8)) false [] <|
    .one (some 20) (.bin .add (.t 19) (.c (aint 1))) false [] <|
    .one (some 8) (.mv (.t 20)) false [] <|
    .nil)))
def godwitref01_U_A : AFun := ⟨
 (.seq
  (.region <|
   .one (some 6) (.mv (.c anil)) false [] <|
   .nil)
  (.seq
   (.region <|
    .one (some 9) (.bsl 0 (.atom (.int .u8 0)) 0 []) false [] <|
    .one (some 10) (.mv (.t 0)) false [] <|
    .one (some 11) (.app 1 1 1 (.t 9) (.t 10)) false [] <|
    .one (some 7) (.mv (.t 11)) false [] <|
    .nil)
   (.seq
    (.seq
     (.region <|
      .one (some 8) (.mv (.c (aint 0))) false [] <|
      .nil)
     (.block 0
      (.loop godwitref01_U_L0)))
    (.seq
     (.region <|
      .one (some 29) (.mv (.t 7)) false [] <|
      .one (some 6) (.mv (.t 29)) false [] <|
      .nil)
     .ret)))),
 [.tmp 6], 4, .own⟩
theorem godwitref01_U_c : compFn Try.prog wrs modes 14 = some godwitref01_U_A := by kernel_rfl

/-- godwit/enc.List -/
def enc_List_A : AFun := ⟨
 (.seq
  (.region <|
   .one (some 4) (.nown 0 1) false [] <|
   .nil)
  (.seq
   (.region <|
    .one (some 5) (.mv (.t 1)) false [] <|
    .one (some 6) (.mv (.t 1)) false [] <|
    .one (some 7) (.len (.t 6)) false [] <|
    .one (some 8) (.min [(.t 7), (.c (aint 65535))]) false [] <|
    .one (some 9) (.slc 1 (.t 5) none (some (.t 8)) none) false [] <|
    .one (some 1) (.mv (.t 9)) false [] <|
    .nil)
   (.seq
    (.region <|
     .one (some 10) (.mv (.t 0)) false [] <|
     .one (some 11) (.mv (.t 1)) false [] <|
     .one (some 12) (.len (.t 11)) false [] <|
     .one (some 13) (.i2i .u64 (.t 12)) false [] <|
     .one (some 14) (.call 1 (.c (.fn enc_U [] [])) [(.t 10), (.t 13), (.c (aint 2))]) false [] <|
     .one (some 15) (.mv (.t 1)) false [] <|
     .one (some 16) (.app 2 1 1 (.t 14) (.t 15)) false [] <|
     .one (some 4) (.mv (.t 16)) false [] <|
     .nil)
    .ret))),
 [.tmp 4], 3, .own⟩
theorem enc_List_c : compFn Try.prog wrs modes 15 = some enc_List_A := by kernel_rfl

/-- godwit/godwitref01.List -/
def godwitref01_List_A : AFun := ⟨
 (.seq
  (.region <|
   .one (some 4) (.nown 0 1) false [] <|
   .nil)
  (.seq
   (.region <|
    .one (some 7) (.mv (.t 1)) false [] <|
    .one (some 8) (.len (.t 7)) false [] <|
    .one (some 9) (.min [(.t 8), (.c (aint 65535))]) false [] <|
    .one (some 5) (.mv (.t 9)) false [] <|
    .nil)
   (.seq
    (.region <|
     .one (some 10) (.mv (.t 0)) false [] <|
     .one (some 11) (.mv (.t 5)) false [] <|
     .one (some 12) (.i2i .u64 (.t 11)) false [] <|
     .one (some 13) (.call 1 (.c (.fn godwitref01_U [] [])) [(.t 10), (.t 12), (.c (aint 2))]) false [] <|
     .one (some 6) (.mv (.t 13)) false [] <|
     .nil)
    (.seq
     (.region <|
      .one (some 14) (.mv (.t 6)) false [] <|
      .one (some 15) (.mv (.t 1)) false [] <|
      .one (some 16) (.mv (.t 5)) false [] <|
      .one (some 17) (.slc 1 (.t 15) none (some (.t 16)) none) false [] <|
      .one (some 18) (.app 2 1 1 (.t 14) (.t 17)) false [] <|
      .one (some 4) (.mv (.t 18)) false [] <|
      .nil)
     .ret)))),
 [.tmp 4], 3, .own⟩
theorem godwitref01_List_c : compFn Try.prog wrs modes 16 = some godwitref01_List_A := by kernel_rfl

/-- (*godwit/enc.Reader).List -/
def __enc_Reader__List_A : AFun := ⟨
 (.seq
  (.region <|
   .one (some 4) (.mv (.c anil)) false [] <|
   .nil)
  (.seq
   (.region <|
    .one (some 6) (.mv (.t 0)) false [] <|
    .one (some 7) (.call 0 (.c (.fn __enc_Reader__U [] [])) [(.t 6), (.c (aint 2))]) false [] <|
    .one (some 8) (.i2i .i64 (.t 7)) false [] <|
    .one (some 5) (.mv (.t 8)) false [] <|
    .nil)
   (.seq
    (.seq
     (.region <|
      .one (some 9) (.mv (.t 5)) false [] <|
      .one (some 10) (.mv (.t 1)) false [] <|
      .one (some 11) (.bin .gtr (.t 9) (.t 10)) false [] <|
      .nil)
     (.cond (.t 11)
      (.region <|
       .one (some 12) (.mv (.t 0)) false [] <|
       .one (some 13) (.call 1 (.c (.fn __enc_Reader__Fail [] [])) [(.t 12), (.c (aint 5))]) false [] <|
       .nil)
      .skip))
    (.seq
     (.seq
      (.region <|
       .one (some 14) (.mv (.t 0)) false [] <|
       .one (some 15) (.isnil .ptr false (.t 14)) false [] <|
       .nil)
      (.cond (.t 15)
       (.seq
        (.region <|
         .one (some 4) (.mv (.c anil)) false [] <|
         .nil)
        .ret)
       .skip))
     (.seq
      (.region <|
       .one (some 16) (.mv (.t 0)) false [] <|
       .one (some 17) (.nilc (.t 16)) false [] <|
       .one (some 18) (.fa 3 (.t 17)) false [] <|
       .one (some 19) (.ld false 1 (.t 18)) false [] <|
       .one (some 20) (.mv (.t 5)) false [] <|
       .one (some 21) (.call 2 (.t 19) [(.t 20)]) false [] <|
       .one (some 22) (.call 3 (.c (.fn bytes_Clone [] [])) [(.t 21)]) false [] <|
       .one (some 4) (.mv (.t 22)) false [] <|
       .nil)
      .ret))))),
 [.tmp 4], 4, .frozen⟩
theorem __enc_Reader__List_c : compFn Try.prog wrs modes 17 = some __enc_Reader__List_A := by kernel_rfl

/-- (*godwit/enc.Reader).End -/
def __enc_Reader__End_A : AFun := ⟨
 (.seq
  (.region <|
   .one (some 2) (.mv (.c (aint 0))) false [] <|
   .nil)
  (.seq
   (.seq
    (.region <|
     .one (some 4) (.mv (.t 0)) false [] <|
     .one (some 5) (.call 0 (.c (.fn __enc_Reader__Err [] [])) [(.t 4)]) false [] <|
     .one (some 3) (.mv (.t 5)) false [] <|
     .nil)
    (.seq
     (.region <|
      .one (some 6) (.mv (.t 3)) false [] <|
      .one (some 7) (.bin .neq (.t 6) (.c (aint 0))) false [] <|
      .nil)
     (.cond (.t 7)
      (.seq
       (.region <|
        .one (some 8) (.mv (.t 3)) false [] <|
        .one (some 2) (.mv (.t 8)) false [] <|
        .nil)
       .ret)
      .skip)))
   (.seq
    (.seq
     (.region <|
      .one (some 9) (.mv (.t 0)) false [] <|
      .one (some 10) (.nilc (.t 9)) false [] <|
      .one (some 11) (.fa 1 (.t 10)) false [] <|
      .one (some 12) (.ld false 1 (.t 11)) false [] <|
      .one (some 13) (.mv (.t 0)) false [] <|
      .one (some 14) (.nilc (.t 13)) false [] <|
      .one (some 15) (.fa 0 (.t 14)) false [] <|
      .one (some 16) (.ld false 1 (.t 15)) false [] <|
      .one (some 17) (.len (.t 16)) false [] <|
      .one (some 18) (.bin .lss (.t 12) (.t 17)) false [] <|
      .nil)
     (.cond (.t 18)
      (.seq
       (.region <|
        .one (some 2) (.mv (.c (aint 3))) false [] <|
        .nil)
       .ret)
      .skip))
    (.seq
     (.region <|
      .one (some 2) (.mv (.c (aint 0))) false [] <|
      .nil)
     .ret)))),
 [.tmp 2], 1, .frozen⟩
theorem __enc_Reader__End_c : compFn Try.prog wrs modes 18 = some __enc_Reader__End_A := by kernel_rfl

/-- (*godwit/enc.Reader).Err -/
def __enc_Reader__Err_A : AFun := ⟨
 (.seq
  (.region <|
   .one (some 2) (.mv (.c (aint 0))) false [] <|
   .nil)
  (.seq
   (.seq
    (.region <|
     .one (some 3) (.mv (.t 0)) false [] <|
     .one (some 4) (.isnil .ptr false (.t 3)) false [] <|
     .nil)
    (.cond (.t 4)
     (.seq
      (.region <|
       .one (some 2) (.mv (.c (aint 1))) false [] <|
       .nil)
      .ret)
     .skip))
   (.seq
    (.region <|
     .one (some 5) (.mv (.t 0)) false [] <|
     .one (some 6) (.nilc (.t 5)) false [] <|
     .one (some 7) (.fa 2 (.t 6)) false [] <|
     .one (some 8) (.ld false 1 (.t 7)) false [] <|
     .one (some 2) (.mv (.t 8)) false [] <|
     .nil)
    .ret))),
 [.tmp 2], 0, .frozen⟩
theorem __enc_Reader__Err_c : compFn Try.prog wrs modes 19 = some __enc_Reader__Err_A := by kernel_rfl

/-- godwit/godwitref01.New -/
def godwitref01_New_A : AFun := ⟨
 (.seq
  (.region <|
   .one (some 2) (.mv (.c (.atom (.pointer none)))) false [] <|
   .nil)
  (.seq
   (.region <|
    .one (some 3) (.mv (.t 0)) false [] <|
    .one (some 4) (.bld [anil, (aint 0), (aint 0)] [(0, 1, (.t 3))]) false [] <|
    .one (some 5) (.box 0 (.t 4)) false [] <|
    .one (some 2) (.mv (.t 5)) false [] <|
    .nil)
   .ret)),
 [.tmp 2], 1, .escape⟩
theorem godwitref01_New_c : compFn Try.prog wrs modes 20 = some godwitref01_New_A := by kernel_rfl

/-- (*godwit/godwitref01.Reader).U -/
def __godwitref01_Reader__U_L0 : ACode :=
 (.seq
  (.seq
   (.region <|
    .one (some 22) (.mv (.t 7)) false [] <|
    .one (some 23) (.bin .geq (.t 22) (.c (aint 0))) false [] <|
    .nil)
   (.cond (.t 23)
    .skip
    (.exit 0)))
  (.seq
   (.block 1
    (.region <|
     .one (some 26) (.mv (.t 5)) false [] <|
     .one (some 27) (.bin .mul (.t 26) (.c (.atom (.int .u64 256)))) false [] <|
     .one (some 28) (.mv (.t 6)) false [] <|
     .one (some 29) (.mv (.t 7)) false [] <|
     .one (some 30) (.ia 1 (.t 28) (.t 29)) false [] <|
     .one (some 31) (.ld false 1 (.t 30)) false [] <|
     .one (some 32) (.i2i .u64 (.t 31)) false [] <|
     .one (some 33) (.bin .add (.t 27) (.t 32)) false [] <|
     .one (some 5) (.mv (.t 33)) false [] <|
     .nil))
   (.region <|
    .one (some 24) (.mv (.t 7)) false [] <|
    .one (some 25) (.bin .sub (.t 24) (.c (aint 1))) false [] <|
    .one (some 7) (.mv (.t 25)) false [] <|
    .nil)))
def __godwitref01_Reader__U_A : AFun := ⟨
 (.seq
  (.region <|
   .one (some 4) (.mv (.c (.atom (.int .u64 0)))) false [] <|
   .nil)
  (.seq
   (.seq
    (.region <|
     .one (some 8) (.mv (.t 1)) false [] <|
     .one (some 9) (.bin .lss (.t 8) (.c (aint 1))) false [] <|
     .one (some 10) (.mv (.t 9)) false [] <|
     .sc 13 11 13 10 false
       (.one (some 11) (.mv (.t 1)) false [] <|
        .one (some 12) (.bin .gtr (.t 11) (.c (aint 8))) false [] <|
        .nil)
       (.c (abool true)) (.t 12) <|
     .nil)
    (.cond (.t 13)
     (.seq
      (.region <|
       .one (some 14) (.mv (.t 0)) false [] <|
       .one (some 15) (.call 0 (.c (.fn __godwitref01_Reader__Fail [] [])) [(.t 14), (.c (aint 1))]) false [] <|
       .nil)
      (.seq
       (.region <|
        .one (some 4) (.mv (.c (.atom (.int .u64 0)))) false [] <|
        .nil)
       .ret))
     .skip))
   (.seq
    (.region <|
     .one (some 5) (.mv (.c (.atom (.int .u64 0)))) false [] <|
     .nil)
    (.seq
     (.region <|
      .one (some 16) (.mv (.t 0)) false [] <|
      .one (some 17) (.mv (.t 1)) false [] <|
      .one (some 18) (.call 1 (.c (.fn __godwitref01_Reader__take [] [])) [(.t 16), (.t 17)]) false [] <|
      .one (some 6) (.mv (.t 18)) false [] <|
      .nil)
     (.seq
      (.seq
       (.region <|
        .one (some 19) (.mv (.t 6)) false [] <|
        .one (some 20) (.len (.t 19)) false [] <|
        .one (some 21) (.bin .sub (.t 20) (.c (aint 1))) false [] <|
        .one (some 7) (.mv (.t 21)) false [] <|
        .nil)
       (.block 0
        (.loop __godwitref01_Reader__U_L0)))
      (.seq
       (.region <|
        .one (some 34) (.mv (.t 5)) false [] <|
        .one (some 4) (.mv (.t 34)) false [] <|
        .nil)
       .ret)))))),
 [.tmp 4], 2, .frozen⟩
theorem __godwitref01_Reader__U_c : compFn Try.prog wrs modes 21 = some __godwitref01_Reader__U_A := by kernel_rfl

/-- (*godwit/godwitref01.Reader).List -/
def __godwitref01_Reader__List_A : AFun := ⟨
 (.seq
  (.region <|
   .one (some 4) (.mv (.c anil)) false [] <|
   .nil)
  (.seq
   (.region <|
    .one (some 6) (.mv (.t 0)) false [] <|
    .one (some 7) (.call 0 (.c (.fn __godwitref01_Reader__U [] [])) [(.t 6), (.c (aint 2))]) false [] <|
    .one (some 8) (.i2i .i64 (.t 7)) false [] <|
    .one (some 5) (.mv (.t 8)) false [] <|
    .nil)
   (.seq
    (.seq
     (.region <|
      .one (some 9) (.mv (.t 5)) false [] <|
      .one (some 10) (.mv (.t 1)) false [] <|
      .one (some 11) (.bin .gtr (.t 9) (.t 10)) false [] <|
      .nil)
     (.cond (.t 11)
      (.region <|
       .one (some 12) (.mv (.t 0)) false [] <|
       .one (some 13) (.call 1 (.c (.fn __godwitref01_Reader__Fail [] [])) [(.t 12), (.c (aint 5))]) false [] <|
       .nil)
      .skip))
    (.seq
     (.region <|
      .one (some 14) (.mv (.t 0)) false [] <|
      .one (some 15) (.mv (.t 5)) false [] <|
      .one (some 16) (.call 2 (.c (.fn __godwitref01_Reader__take [] [])) [(.t 14), (.t 15)]) false [] <|
      .one (some 4) (.mv (.t 16)) false [] <|
      .nil)
     .ret)))),
 [.tmp 4], 3, .frozen⟩
theorem __godwitref01_Reader__List_c : compFn Try.prog wrs modes 22 = some __godwitref01_Reader__List_A := by kernel_rfl

/-- (*godwit/enc.Reader).Flag -/
def __enc_Reader__Flag_A : AFun := ⟨
 (.seq
  (.region <|
   .one (some 2) (.mv (.c (abool false))) false [] <|
   .nil)
  (.seq
   (.region <|
    .one (some 4) (.mv (.t 0)) false [] <|
    .one (some 5) (.call 0 (.c (.fn __enc_Reader__U [] [])) [(.t 4), (.c (aint 1))]) false [] <|
    .one (some 3) (.mv (.t 5)) false [] <|
    .nil)
   (.seq
    (.seq
     (.region <|
      .one (some 6) (.mv (.t 3)) false [] <|
      .one (some 7) (.bin .gtr (.t 6) (.c (.atom (.int .u64 1)))) false [] <|
      .nil)
     (.cond (.t 7)
      (.region <|
       .one (some 8) (.mv (.t 0)) false [] <|
       .one (some 9) (.call 1 (.c (.fn __enc_Reader__Fail [] [])) [(.t 8), (.c (aint 3))]) false [] <|
       .nil)
      .skip))
    (.seq
     (.region <|
      .one (some 10) (.mv (.t 3)) false [] <|
      .one (some 11) (.bin .eql (.t 10) (.c (.atom (.int .u64 1)))) false [] <|
      .one (some 2) (.mv (.t 11)) false [] <|
      .nil)
     .ret)))),
 [.tmp 2], 2, .frozen⟩
theorem __enc_Reader__Flag_c : compFn Try.prog wrs modes 23 = some __enc_Reader__Flag_A := by kernel_rfl

/-- (*godwit/godwitref01.Reader).Flag -/
def __godwitref01_Reader__Flag_A : AFun := ⟨
 (.seq
  (.region <|
   .one (some 2) (.mv (.c (abool false))) false [] <|
   .nil)
  (.seq
   (.region <|
    .one (some 4) (.mv (.t 0)) false [] <|
    .one (some 5) (.call 0 (.c (.fn __godwitref01_Reader__U [] [])) [(.t 4), (.c (aint 1))]) false [] <|
    .one (some 3) (.mv (.t 5)) false [] <|
    .nil)
   (.seq
    (.seq
     (.region <|
      .one (some 6) (.mv (.t 3)) false [] <|
      .one (some 7) (.bin .gtr (.t 6) (.c (.atom (.int .u64 1)))) false [] <|
      .nil)
     (.cond (.t 7)
      (.region <|
       .one (some 8) (.mv (.t 0)) false [] <|
       .one (some 9) (.call 1 (.c (.fn __godwitref01_Reader__Fail [] [])) [(.t 8), (.c (aint 3))]) false [] <|
       .nil)
      .skip))
    (.seq
     (.region <|
      .one (some 10) (.mv (.t 3)) false [] <|
      .one (some 11) (.bin .eql (.t 10) (.c (.atom (.int .u64 1)))) false [] <|
      .one (some 12) (.mv (.t 11)) false [] <|
      .sc 18 13 18 12 true
        (.one (some 13) (.mv (.t 0)) false [] <|
         .one (some 14) (.nilc (.t 13)) false [] <|
         .one (some 15) (.fa 2 (.t 14)) false [] <|
         .one (some 16) (.ld false 1 (.t 15)) false [] <|
         .one (some 17) (.bin .eql (.t 16) (.c (aint 0))) false [] <|
         .nil)
        (.t 17) (.c (abool false)) <|
      .one (some 2) (.mv (.t 18)) false [] <|
      .nil)
     .ret)))),
 [.tmp 2], 2, .frozen⟩
theorem __godwitref01_Reader__Flag_c : compFn Try.prog wrs modes 24 = some __godwitref01_Reader__Flag_A := by kernel_rfl

/-- (*godwit/enc.Reader).Fail -/
def __enc_Reader__Fail_A : AFun := ⟨
 (.seq
  (.region <|
   .one (some 4) (.mv (.t 0)) false [] <|
   .one (some 5) (.isnil .ptr true (.t 4)) false [] <|
   .one (some 6) (.mv (.t 5)) false [] <|
   .sc 12 7 12 6 true
     (.one (some 7) (.mv (.t 0)) false [] <|
      .one (some 8) (.nilc (.t 7)) false [] <|
      .one (some 9) (.fa 2 (.t 8)) false [] <|
      .one (some 10) (.ld false 1 (.t 9)) false [] <|
      .one (some 11) (.bin .eql (.t 10) (.c (aint 0))) false [] <|
      .nil)
     (.t 11) (.c (abool false)) <|
   .nil)
  (.cond (.t 12)
   (.region <|
    .one (some 13) (.mv (.t 0)) false [] <|
    .one (some 14) (.mv (.t 1)) false [] <|
    .one (some 15) (.nilc (.t 13)) false [] <|
    .one (some 16) (.fa 2 (.t 15)) false [] <|
    .one none (.st 1 (.t 16) (.t 14)) false [] <|
    .nil)
   .skip)),
 [], 0, .frozen⟩
theorem __enc_Reader__Fail_c : compFn Try.prog wrs modes 25 = some __enc_Reader__Fail_A := by kernel_rfl

/-- (*godwit/godwitref01.Reader).Fail -/
def __godwitref01_Reader__Fail_A : AFun := ⟨
 (.seq
  (.region <|
   .one (some 4) (.mv (.t 0)) false [] <|
   .one (some 5) (.nilc (.t 4)) false [] <|
   .one (some 6) (.fa 2 (.t 5)) false [] <|
   .one (some 7) (.ld false 1 (.t 6)) false [] <|
   .one (some 8) (.bin .eql (.t 7) (.c (aint 0))) false [] <|
   .nil)
  (.cond (.t 8)
   (.region <|
    .one (some 9) (.mv (.t 0)) false [] <|
    .one (some 10) (.mv (.t 1)) false [] <|
    .one (some 11) (.nilc (.t 9)) false [] <|
    .one (some 12) (.fa 2 (.t 11)) false [] <|
    .one none (.st 1 (.t 12) (.t 10)) false [] <|
    .nil)
   .skip)),
 [], 0, .frozen⟩
theorem __godwitref01_Reader__Fail_c : compFn Try.prog wrs modes 26 = some __godwitref01_Reader__Fail_A := by kernel_rfl

/-- (*godwit/godwitref01.Reader).End -/
def __godwitref01_Reader__End_A : AFun := ⟨
 (.seq
  (.region <|
   .one (some 2) (.mv (.c (aint 0))) false [] <|
   .nil)
  (.seq
   (.seq
    (.region <|
     .one (some 3) (.mv (.t 0)) false [] <|
     .one (some 4) (.nilc (.t 3)) false [] <|
     .one (some 5) (.fa 2 (.t 4)) false [] <|
     .one (some 6) (.ld false 1 (.t 5)) false [] <|
     .one (some 7) (.bin .eql (.t 6) (.c (aint 0))) false [] <|
     .one (some 8) (.mv (.t 7)) false [] <|
     .sc 19 9 19 8 true
       (.one (some 9) (.mv (.t 0)) false [] <|
        .one (some 10) (.nilc (.t 9)) false [] <|
        .one (some 11) (.fa 1 (.t 10)) false [] <|
        .one (some 12) (.ld false 1 (.t 11)) false [] <|
        .one (some 13) (.mv (.t 0)) false [] <|
        .one (some 14) (.nilc (.t 13)) false [] <|
        .one (some 15) (.fa 0 (.t 14)) false [] <|
        .one (some 16) (.ld false 1 (.t 15)) false [] <|
        .one (some 17) (.len (.t 16)) false [] <|
        .one (some 18) (.bin .lss (.t 12) (.t 17)) false [] <|
        .nil)
       (.t 18) (.c (abool false)) <|
     .nil)
    (.cond (.t 19)
     (.seq
      (.region <|
       .one (some 2) (.mv (.c (aint 3))) false [] <|
       .nil)
      .ret)
     .skip))
   (.seq
    (.region <|
     .one (some 20) (.mv (.t 0)) false [] <|
     .one (some 21) (.nilc (.t 20)) false [] <|
     .one (some 22) (.fa 2 (.t 21)) false [] <|
     .one (some 23) (.ld false 1 (.t 22)) false [] <|
     .one (some 2) (.mv (.t 23)) false [] <|
     .nil)
    .ret))),
 [.tmp 2], 0, .frozen⟩
theorem __godwitref01_Reader__End_c : compFn Try.prog wrs modes 27 = some __godwitref01_Reader__End_A := by kernel_rfl

/-- godwit/godwitlaw01.step -/
def godwitlaw01_step_A : AFun := ⟨
 (.seq
  (.region <|
   .one (some 3) (.box 0 (.t 1)) false [] <|
   .one (some 4) (.mv (.c (abool false))) false [] <|
   .nil)
  (.seq
   (.seq
    (.region <|
     .one (some 5) (.fa 0 (.t 3)) false [] <|
     .one (some 6) (.ld false 1 (.t 5)) false [] <|
     .nil)
    (.block 0
     (.seq
      (.seq
       (.region <|
        .one (some 8) (.bin .eql (.t 6) (.c (aint 0))) false [] <|
        .one (some 7) (.mv (.t 8)) false [] <|
        .nil)
       (.cond (.t 7)
        .skip
        (.region <|
         .one (some 9) (.bin .eql (.t 6) (.c (aint 1))) false [] <|
         .one (some 7) (.mv (.t 9)) false [] <|
         .nil)))
      (.cond (.t 7)
       (.seq
        (.region <|
         .one (some 10) (.mv (.t 0)) false [] <|
         .one (some 11) (.fa 1 (.t 3)) false [] <|
         .one (some 12) (.ld false 1 (.t 11)) false [] <|
         .one (some 13) (.call 1 (.c (.fn __enc_Reader__U [] [])) [(.t 10), (.t 12)]) false [] <|
         .one (some 14) (.bin .neq (.t 13) (.c (.atom (.int .u64 0)))) false [] <|
         .one (some 4) (.mv (.t 14)) false [] <|
         .nil)
        .ret)
       (.seq
        (.region <|
         .one (some 16) (.bin .eql (.t 6) (.c (aint 2))) false [] <|
         .one (some 15) (.mv (.t 16)) false [] <|
         .nil)
        (.cond (.t 15)
         (.seq
          (.region <|
           .one (some 17) (.mv (.t 0)) false [] <|
           .one (some 18) (.fa 1 (.t 3)) false [] <|
           .one (some 19) (.ld false 1 (.t 18)) false [] <|
           .one (some 20) (.call 2 (.c (.fn __enc_Reader__List [] [])) [(.t 17), (.t 19)]) false [] <|
           .one (some 21) (.len (.t 20)) false [] <|
           .one (some 22) (.bin .neq (.t 21) (.c (aint 0))) false [] <|
           .one (some 4) (.mv (.t 22)) false [] <|
           .nil)
          .ret)
         (.seq
          (.region <|
           .one (some 24) (.bin .eql (.t 6) (.c (aint 3))) false [] <|
           .one (some 23) (.mv (.t 24)) false [] <|
           .nil)
          (.cond (.t 23)
           (.seq
            (.region <|
             .one (some 25) (.mv (.t 0)) false [] <|
             .one (some 26) (.call 3 (.c (.fn __enc_Reader__Flag [] [])) [(.t 25)]) false [] <|
             .one (some 4) (.mv (.t 26)) false [] <|
             .nil)
            .ret)
           (.seq
            (.region <|
             .one (some 28) (.bin .eql (.t 6) (.c (aint 4))) false [] <|
             .one (some 27) (.mv (.t 28)) false [] <|
             .nil)
            (.cond (.t 27)
             (.region <|
              .one (some 29) (.mv (.t 0)) false [] <|
              .one (some 30) (.fa 1 (.t 3)) false [] <|
              .one (some 31) (.ld false 1 (.t 30)) false [] <|
              .one (some 32) (.call 4 (.c (.fn __enc_Reader__Fail [] [])) [(.t 29), (.t 31)]) false [] <|
              .nil)
             .skip))))))))))
   (.seq
    (.region <|
     .one (some 4) (.mv (.c (abool false))) false [] <|
     .nil)
    .ret))),
 [.tmp 4], 5, .frozen⟩
theorem godwitlaw01_step_c : compFn Try.prog wrs modes 28 = some godwitlaw01_step_A := by kernel_rfl

/-- godwit/enc.New$1 -/
def enc_New_1_A : AFun := ⟨
 (.seq
  (.region <|
   .one (some 4) (.mv (.c anil)) false [] <|
   .nil)
  (.seq
   (.seq
    (.region <|
     .one (some 5) (.mv (.t 0)) false [] <|
     .one (some 6) (.ld false 1 (.t 1)) false [] <|
     .one (some 7) (.len (.t 6)) false [] <|
     .one (some 8) (.ld false 1 (.t 2)) false [] <|
     .one (some 9) (.nilc (.t 8)) false [] <|
     .one (some 10) (.fa 1 (.t 9)) false [] <|
     .one (some 11) (.ld false 1 (.t 10)) false [] <|
     .one (some 12) (.bin .sub (.t 7) (.t 11)) false [] <|
     .one (some 13) (.bin .gtr (.t 5) (.t 12)) false [] <|
     .nil)
    (.cond (.t 13)
     (.region <|
      .one (some 14) (.ld false 1 (.t 2)) false [] <|
      .one (some 15) (.call 0 (.c (.fn __enc_Reader__Fail [] [])) [(.t 14), (.c (aint 2))]) false [] <|
      .nil)
     .skip))
   (.seq
    (.seq
     (.region <|
      .one (some 16) (.ld false 1 (.t 2)) false [] <|
      .one (some 17) (.nilc (.t 16)) false [] <|
      .one (some 18) (.fa 2 (.t 17)) false [] <|
      .one (some 19) (.ld false 1 (.t 18)) false [] <|
      .one (some 20) (.bin .neq (.t 19) (.c (aint 0))) false [] <|
      .nil)
     (.cond (.t 20)
      (.seq
       (.region <|
        .one (some 4) (.mv (.c anil)) false [] <|
        .nil)
       .ret)
      .skip))
    (.seq
     (.region <|
      .one (some 21) (.ld false 1 (.t 2)) false [] <|
      .one (some 22) (.nilc (.t 21)) false [] <|
      .one (some 23) (.fa 1 (.t 22)) false [] <|
      .one (some 24) (.ld false 1 (.t 23)) false [] <|
      .one (some 25) (.mv (.t 0)) false [] <|
      .one (some 26) (.bin .add (.t 24) (.t 25)) false [] <|
      .one (some 27) (.nilc (.t 21)) false [] <|
      .one (some 28) (.fa 1 (.t 27)) false [] <|
      .one none (.st 1 (.t 28) (.t 26)) false [] <|
      .nil)
     (.seq
      (.region <|
       .one (some 29) (.ld false 1 (.t 1)) false [] <|
       .one (some 30) (.ld false 1 (.t 2)) false [] <|
       .one (some 31) (.nilc (.t 30)) false [] <|
       .one (some 32) (.fa 1 (.t 31)) false [] <|
       .one (some 33) (.ld false 1 (.t 32)) false [] <|
       .one (some 34) (.mv (.t 0)) false [] <|
       .one (some 35) (.bin .sub (.t 33) (.t 34)) false [] <|
       .one (some 36) (.ld false 1 (.t 2)) false [] <|
       .one (some 37) (.nilc (.t 36)) false [] <|
       .one (some 38) (.fa 1 (.t 37)) false [] <|
       .one (some 39) (.ld false 1 (.t 38)) false [] <|
       .one (some 40) (.slc 1 (.t 29) (some (.t 35)) (some (.t 39)) none) false [] <|
       .one (some 4) (.mv (.t 40)) false [] <|
       .nil)
      .ret))))),
 [.tmp 4], 1, .frozen⟩
theorem enc_New_1_c : compFn Try.prog wrs modes 29 = some enc_New_1_A := by kernel_rfl

/-- bytes.Clone -/
def bytes_Clone_A : AFun := ⟨
 (.seq
  (.region <|
   .one (some 2) (.nown 0 1) false [] <|
   .nil)
  (.seq
   (.seq
    (.region <|
     .one (some 3) (.mv (.t 0)) false [] <|
     .one (some 4) (.isnil .sl false (.t 3)) false [] <|
     .nil)
    (.cond (.t 4)
     (.seq
      (.region <|
       .one (some 2) (.nown 1 1) false [] <|
       .nil)
      .ret)
     .skip))
   (.seq
    (.region <|
     .one (some 5) (.bsl 2 (.atom (.int .u8 0)) 0 []) false [] <|
     .one (some 6) (.mv (.t 0)) false [] <|
     .one (some 7) (.app 3 1 1 (.t 5) (.t 6)) false [] <|
     .one (some 2) (.mv (.t 7)) false [] <|
     .nil)
    .ret))),
 [.tmp 2], 4, .own⟩
theorem bytes_Clone_c : compFn Try.prog wrs modes 30 = some bytes_Clone_A := by kernel_rfl

/-- (*godwit/godwitref01.Reader).take -/
def __godwitref01_Reader__take_A : AFun := ⟨
 (.seq
  (.region <|
   .one (some 4) (.nown 0 1) false [] <|
   .nil)
  (.seq
   (.seq
    (.region <|
     .one (some 5) (.mv (.t 0)) false [] <|
     .one (some 6) (.nilc (.t 5)) false [] <|
     .one (some 7) (.fa 2 (.t 6)) false [] <|
     .one (some 8) (.ld false 1 (.t 7)) false [] <|
     .one (some 9) (.bin .eql (.t 8) (.c (aint 0))) false [] <|
     .one (some 10) (.mv (.t 9)) false [] <|
     .sc 23 11 23 10 true
       (.one (some 11) (.mv (.t 1)) false [] <|
        .one (some 12) (.mv (.t 0)) false [] <|
        .one (some 13) (.nilc (.t 12)) false [] <|
        .one (some 14) (.fa 0 (.t 13)) false [] <|
        .one (some 15) (.ld false 1 (.t 14)) false [] <|
        .one (some 16) (.len (.t 15)) false [] <|
        .one (some 17) (.mv (.t 0)) false [] <|
        .one (some 18) (.nilc (.t 17)) false [] <|
        .one (some 19) (.fa 1 (.t 18)) false [] <|
        .one (some 20) (.ld false 1 (.t 19)) false [] <|
        .one (some 21) (.bin .sub (.t 16) (.t 20)) false [] <|
        .one (some 22) (.bin .gtr (.t 11) (.t 21)) false [] <|
        .nil)
       (.t 22) (.c (abool false)) <|
     .nil)
    (.cond (.t 23)
     (.region <|
      .one (some 24) (.mv (.t 0)) false [] <|
      .one (some 25) (.nilc (.t 24)) false [] <|
      .one (some 26) (.fa 2 (.t 25)) false [] <|
      .one none (.st 1 (.t 26) (.c (aint 2))) false [] <|
      .nil)
     .skip))
   (.seq
    (.seq
     (.region <|
      .one (some 27) (.mv (.t 0)) false [] <|
      .one (some 28) (.nilc (.t 27)) false [] <|
      .one (some 29) (.fa 2 (.t 28)) false [] <|
      .one (some 30) (.ld false 1 (.t 29)) false [] <|
      .one (some 31) (.bin .neq (.t 30) (.c (aint 0))) false [] <|
      .nil)
     (.cond (.t 31)
      (.seq
       (.region <|
        .one (some 4) (.nown 1 1) false [] <|
        .nil)
       .ret)
      .skip))
    (.seq
     (.region <|
      .one (some 32) (.mv (.t 0)) false [] <|
      .one (some 33) (.mv (.t 0)) false [] <|
      .one (some 34) (.nilc (.t 33)) false [] <|
      .one (some 35) (.fa 1 (.t 34)) false [] <|
      .one (some 36) (.ld false 1 (.t 35)) false [] <|
      .one (some 37) (.mv (.t 1)) false [] <|
      .one (some 38) (.bin .add (.t 36) (.t 37)) false [] <|
      .one (some 39) (.nilc (.t 32)) false [] <|
      .one (some 40) (.fa 1 (.t 39)) false [] <|
      .one none (.st 1 (.t 40) (.t 38)) false [] <|
      .nil)
     (.seq
      (.region <|
       .one (some 41) (.bsl 2 (.atom (.int .u8 0)) 0 []) false [] <|
       .one (some 42) (.mv (.t 0)) false [] <|
       .one (some 43) (.nilc (.t 42)) false [] <|
       .one (some 44) (.fa 0 (.t 43)) false [] <|
       .one (some 45) (.ld false 1 (.t 44)) false [2] <|
       .one (some 46) (.mv (.t 0)) false [] <|
       .one (some 47) (.nilc (.t 46)) false [] <|
       .one (some 48) (.fa 1 (.t 47)) false [] <|
       .one (some 49) (.ld false 1 (.t 48)) false [2] <|
       .one (some 50) (.mv (.t 1)) false [] <|
       .one (some 51) (.bin .sub (.t 49) (.t 50)) false [] <|
       .one (some 52) (.mv (.t 0)) false [] <|
       .one (some 53) (.nilc (.t 52)) false [] <|
       .one (some 54) (.fa 1 (.t 53)) false [] <|
       .one (some 55) (.ld false 1 (.t 54)) false [2] <|
       .one (some 56) (.slc 1 (.t 45) (some (.t 51)) (some (.t 55)) none) false [] <|
       .one (some 57) (.app 3 1 1 (.t 41) (.t 56)) false [] <|
       .one (some 4) (.mv (.t 57)) false [] <|
       .nil)
      .ret))))),
 [.tmp 4], 4, .frozen⟩
theorem __godwitref01_Reader__take_c : compFn Try.prog wrs modes 31 = some __godwitref01_Reader__take_A := by kernel_rfl

end Go.Proofs.Ytmbleldjdhkkeaa.Fn
