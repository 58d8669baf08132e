/- Try: the functions of the program, as the abstract machine has them (printed by a program of the session's own, gen.lean; each is held against the program by the kernel). -/
import Derived.Test.YtcfbnhdcpmnpaaaProg
import Derived.Test.YtcfbnhdcpmnpaaaFwC
import Derived.KernelRfl
namespace Go.Proofs.Ytcfbnhdcpmnpaaa.Fn
open Go Go.Abs
set_option maxRecDepth 100000

def modes : FuncId → AMode
  | 21 => .escape
  | _ => .frozen
def raws : FuncId → Bool
  | _ => false
def wrs : FuncId → Bool
  | _ => false
abbrev main_main : Nat := 0
abbrev gosem_cut : Nat := 1
abbrev gosem_cut_init : Nat := 2
abbrev godwitlaw20_RetryRises : Nat := 3
abbrev godwitlaw20_RetryBy : Nat := 4
abbrev godwitlaw20_RetryDoubles : Nat := 5
abbrev godwitlaw20_RetryFew : Nat := 6
abbrev godwitlaw20_RetryIs : Nat := 7
abbrev godwitlaw20_RetrySpread : Nat := 8
abbrev godwitlaw20_awake : Nat := 9
abbrev godwitlaw20_ours : Nat := 10
abbrev retry_Delay : Nat := 11
abbrev retry_Sane : Nat := 12
abbrev retry_Total : Nat := 13
abbrev retry_By : Nat := 14
abbrev godwitref20_Sane : Nat := 15
abbrev godwitref20_Delay : Nat := 16
abbrev retry_Spread : Nat := 17
abbrev godwitref20_Spread : Nat := 18
abbrev godwitref20_Total : Nat := 19
abbrev godwitref20_By : Nat := 20
abbrev _retry_Plan__delays : Nat := 21
abbrev _retry_Plan__delays_1 : Nat := 22
abbrev _runtime_boundsError__Error : Nat := 23
abbrev _runtime_boundsError__RuntimeError : Nat := 24
abbrev _runtime_errorString__Error : Nat := 25
abbrev _runtime_errorString__RuntimeError : Nat := 26
abbrev _runtime_plainError__Error : Nat := 27
abbrev _runtime_plainError__RuntimeError : Nat := 28
abbrev _runtime_errorAddressString__Error : Nat := 29
abbrev _runtime_errorAddressString__RuntimeError : Nat := 30
abbrev __runtime_TypeAssertionError__Error : Nat := 31
abbrev __runtime_TypeAssertionError__RuntimeError : Nat := 32
abbrev __runtime_PanicNilError__Error : Nat := 33
abbrev __runtime_PanicNilError__RuntimeError : Nat := 34
abbrev __internal_abi_Type__Align : Nat := 35
abbrev _internal_runtime_maps_unhashableTypeError__Error : Nat := 36
abbrev _internal_runtime_maps_unhashableTypeError__RuntimeError : Nat := 37
abbrev _internal_abi_Kind__String : Nat := 38

/-- gosem.cut.init -/
def gosem_cut_init_A : AFun := ⟨
 (.region <|
  .one (some 0) (.call 0 (.c (.fn gosem_cut [] [])) []) false [] <|
  .nil),
 [], 1, .frozen⟩
theorem gosem_cut_init_c : compFn Try.prog wrs modes 2 = some gosem_cut_init_A := by kernel_rfl

/-- godwit/godwitlaw20.RetryRises -/
def godwitlaw20_RetryRises_L0 : ACode :=
 (.seq
  (.seq
   (.region <|
    .one (some 13) (.mv (.t 7)) false [] <|
    .one (some 14) (.bin .lss (.t 13) (.c (aint 101))) false [] <|
    .nil)
   (.cond (.t 14)
    .skip
    (.exit 0)))
  (.seq
   (.block 1
    (.seq
     (.region <|
      .one (some 18) (.ld true 3 (.t 4)) false [] <|
      .one (some 19) (.mv (.t 7)) false [] <|
      .one (some 20) (.call 4 (.c (.fn retry_Delay [] [])) [(.t 18), (.t 19)]) false [] <|
      .one (some 17) (.mv (.t 20)) false [] <|
      .one (some 21) (.ext (.t 17) 0) false [] <|
      .one (some 22) (.ext (.t 17) 1) false [] <|
      .one (some 8) (.mv (.t 21)) false [] <|
      .one (some 9) (.mv (.t 22)) false [] <|
      .nil)
     (.seq
      (.seq
       (.region <|
        .one (some 23) (.mv (.t 9)) false [] <|
        .one (some 24) (.ld true 3 (.t 4)) false [] <|
        .one (some 25) (.call 5 (.c (.fn retry_Sane [] [])) [(.t 24)]) false [] <|
        .one (some 26) (.mv (.t 25)) false [] <|
        .sc 31 27 31 26 true
          (.one (some 27) (.mv (.t 7)) false [] <|
           .one (some 28) (.fa 2 (.t 1)) false [] <|
           .one (some 29) (.ld false 1 (.t 28)) false [] <|
           .one (some 30) (.bin .lss (.t 27) (.t 29)) false [] <|
           .nil)
          (.t 30) (.c (abool false)) <|
        .one (some 32) (.beq true (.t 23) (.t 31)) false [] <|
        .nil)
       (.cond (.t 32)
        (.seq
         (.region <|
          .one (some 2) (.mv (.c (abool false))) false [] <|
          .nil)
         .ret)
        .skip))
      (.seq
       (.seq
        (.region <|
         .one (some 33) (.mv (.t 9)) false [] <|
         .one (some 34) (.un .not (.t 33)) false [] <|
         .nil)
        (.cond (.t 34)
         (.exit 1)
         .skip))
       (.seq
        (.seq
         (.region <|
          .one (some 35) (.mv (.t 7)) false [] <|
          .one (some 36) (.bin .eql (.t 35) (.c (aint 0))) false [] <|
          .one (some 37) (.mv (.t 36)) false [] <|
          .sc 42 38 42 37 true
            (.one (some 38) (.mv (.t 8)) false [] <|
             .one (some 39) (.fa 0 (.t 1)) false [] <|
             .one (some 40) (.ld false 1 (.t 39)) false [] <|
             .one (some 41) (.bin .neq (.t 38) (.t 40)) false [] <|
             .nil)
            (.t 41) (.c (abool false)) <|
          .one (some 43) (.mv (.t 42)) false [] <|
          .sc 55 44 55 43 false
            (.one (some 44) (.mv (.t 7)) false [] <|
             .one (some 45) (.bin .gtr (.t 44) (.c (aint 0))) false [] <|
             .one (some 46) (.mv (.t 45)) false [] <|
             .sc 54 47 54 46 true
               (.one (some 47) (.mv (.t 8)) false [] <|
                .one (some 48) (.mv (.t 5)) false [] <|
                .one (some 49) (.bin .mul (.c (aint 2)) (.t 48)) false [] <|
                .one (some 50) (.fa 1 (.t 1)) false [] <|
                .one (some 51) (.ld false 1 (.t 50)) false [] <|
                .one (some 52) (.min [(.t 49), (.t 51)]) false [] <|
                .one (some 53) (.bin .neq (.t 47) (.t 52)) false [] <|
                .nil)
               (.t 53) (.c (abool false)) <|
             .nil)
            (.c (abool true)) (.t 54) <|
          .one (some 56) (.mv (.t 55)) false [] <|
          .sc 60 57 60 56 false
            (.one (some 57) (.mv (.t 8)) false [] <|
             .one (some 58) (.mv (.t 5)) false [] <|
             .one (some 59) (.bin .lss (.t 57) (.t 58)) false [] <|
             .nil)
            (.c (abool true)) (.t 59) <|
          .nil)
         (.cond (.t 60)
          (.seq
           (.region <|
            .one (some 2) (.mv (.c (abool false))) false [] <|
            .nil)
           .ret)
          .skip))
        (.seq
         (.region <|
          .one (some 61) (.mv (.t 8)) false [] <|
          .one (some 5) (.mv (.t 61)) false [] <|
          .nil)
         (.region <|
          .one (some 62) (.mv (.t 6)) false [] <|
          .one (some 63) (.mv (.t 8)) false [] <|
          .one (some 64) (.bin .add (.t 62) (.t 63)) false [] <|
          .one (some 6) (.mv (.t 64)) false [] <|
          .nil)))))))
   (.region <|
    .one (some 15) (.mv (.t 7)) false [] <|
    .one (some 16) (.bin .add (.t 15) (.c (aint 1))) false [] <|
    .one (some 7) (.mv (.t 16)) false [] <|
    .nil)))
def godwitlaw20_RetryRises_A : AFun := ⟨
 (.seq
  (.region <|
   .one (some 1) (.box 0 (.t 0)) false [] <|
   .one (some 2) (.mv (.c (abool false))) false [] <|
   .nil)
  (.seq
   (.region <|
    .one (some 10) (.call 1 (.c (.fn godwitlaw20_awake [] [])) []) false [] <|
    .one (some 3) (.mv (.t 10)) false [] <|
    .nil)
   (.seq
    (.region <|
     .one (some 11) (.ld true 3 (.t 1)) false [] <|
     .one (some 12) (.call 2 (.c (.fn godwitlaw20_ours [] [])) [(.t 11)]) false [] <|
     .one (some 4) (.alloc 3 (.agg [(aint 0), (aint 0), (aint 0)])) false [] <|
     .one none (.st 3 (.t 4) (.t 12)) false [] <|
     .nil)
    (.seq
     (.region <|
      .one (some 5) (.mv (.c (aint 0))) false [] <|
      .nil)
     (.seq
      (.region <|
       .one (some 6) (.mv (.c (aint 0))) false [] <|
       .nil)
      (.seq
       (.seq
        (.region <|
         .one (some 7) (.mv (.c (aint 0))) false [] <|
         .nil)
        (.block 0
         (.loop godwitlaw20_RetryRises_L0)))
       (.seq
        (.region <|
         .one (some 65) (.mv (.t 3)) false [] <|
         .one (some 66) (.mv (.t 65)) false [] <|
         .sc 71 67 71 66 true
           (.one (some 67) (.mv (.t 6)) false [] <|
            .one (some 68) (.ld true 3 (.t 4)) false [] <|
            .one (some 69) (.call 6 (.c (.fn retry_Total [] [])) [(.t 68)]) false [] <|
            .one (some 70) (.bin .eql (.t 67) (.t 69)) false [] <|
            .nil)
           (.t 70) (.c (abool false)) <|
         .one (some 2) (.mv (.t 71)) false [] <|
         .nil)
        .ret))))))),
 [.tmp 2], 7, .frozen⟩
theorem godwitlaw20_RetryRises_c : compFn Try.prog wrs modes 3 = some godwitlaw20_RetryRises_A := by kernel_rfl

/-- godwit/godwitlaw20.RetryBy -/
def godwitlaw20_RetryBy_A : AFun := ⟨
 (.seq
  (.region <|
   .one (some 3) (.box 0 (.t 0)) false [] <|
   .one (some 6) (.mv (.c (abool false))) false [] <|
   .nil)
  (.seq
   (.region <|
    .one (some 13) (.call 1 (.c (.fn godwitlaw20_awake [] [])) []) false [] <|
    .one (some 7) (.mv (.t 13)) false [] <|
    .nil)
   (.seq
    (.region <|
     .one (some 14) (.ld true 3 (.t 3)) false [] <|
     .one (some 15) (.call 2 (.c (.fn godwitlaw20_ours [] [])) [(.t 14)]) false [] <|
     .one (some 8) (.alloc 3 (.agg [(aint 0), (aint 0), (aint 0)])) false [] <|
     .one none (.st 3 (.t 8) (.t 15)) false [] <|
     .nil)
    (.seq
     (.region <|
      .one (some 16) (.ld true 3 (.t 8)) false [] <|
      .one (some 17) (.mv (.t 1)) false [] <|
      .one (some 18) (.mv (.t 2)) false [] <|
      .one (some 19) (.min [(.t 17), (.t 18)]) false [] <|
      .one (some 20) (.call 4 (.c (.fn retry_By [] [])) [(.t 16), (.t 19)]) false [] <|
      .one (some 9) (.mv (.t 20)) false [] <|
      .nil)
     (.seq
      (.region <|
       .one (some 21) (.ld true 3 (.t 8)) false [] <|
       .one (some 22) (.mv (.t 1)) false [] <|
       .one (some 23) (.mv (.t 2)) false [] <|
       .one (some 24) (.max [(.t 22), (.t 23)]) false [] <|
       .one (some 25) (.call 5 (.c (.fn retry_By [] [])) [(.t 21), (.t 24)]) false [] <|
       .one (some 10) (.mv (.t 25)) false [] <|
       .nil)
      (.seq
       (.region <|
        .one (some 26) (.ld true 3 (.t 8)) false [] <|
        .one (some 27) (.ld true 3 (.t 8)) false [] <|
        .one (some 28) (.call 6 (.c (.fn retry_Total [] [])) [(.t 27)]) true [] <|
        .one (some 29) (.call 7 (.c (.fn retry_By [] [])) [(.t 26), (.t 28)]) false [] <|
        .one (some 11) (.mv (.t 29)) false [] <|
        .nil)
       (.seq
        (.region <|
         .one (some 12) (.mv (.c (aint 0))) false [] <|
         .nil)
        (.seq
         (.seq
          (.region <|
           .one (some 30) (.ld true 3 (.t 8)) false [] <|
           .one (some 31) (.call 8 (.c (.fn retry_Sane [] [])) [(.t 30)]) false [] <|
           .nil)
          (.cond (.t 31)
           (.region <|
            .one (some 32) (.fa 2 (.t 3)) false [] <|
            .one (some 33) (.ld false 1 (.t 32)) false [] <|
            .one (some 12) (.mv (.t 33)) false [] <|
            .nil)
           .skip))
         (.seq
          (.region <|
           .one (some 34) (.mv (.t 7)) false [] <|
           .one (some 35) (.mv (.t 34)) false [] <|
           .sc 39 36 39 35 true
             (.one (some 36) (.mv (.t 9)) false [] <|
              .one (some 37) (.mv (.t 10)) false [] <|
              .one (some 38) (.bin .leq (.t 36) (.t 37)) false [] <|
              .nil)
             (.t 38) (.c (abool false)) <|
           .one (some 40) (.mv (.t 39)) false [] <|
           .sc 44 41 44 40 true
             (.one (some 41) (.mv (.t 11)) false [] <|
              .one (some 42) (.mv (.t 12)) false [] <|
              .one (some 43) (.bin .eql (.t 41) (.t 42)) false [] <|
              .nil)
             (.t 43) (.c (abool false)) <|
           .one (some 45) (.mv (.t 44)) false [] <|
           .sc 49 46 49 45 true
             (.one (some 46) (.mv (.t 10)) false [] <|
              .one (some 47) (.mv (.t 12)) false [] <|
              .one (some 48) (.bin .leq (.t 46) (.t 47)) false [] <|
              .nil)
             (.t 48) (.c (abool false)) <|
           .one (some 50) (.mv (.t 49)) false [] <|
           .sc 53 51 53 50 true
             (.one (some 51) (.mv (.t 9)) false [] <|
              .one (some 52) (.bin .geq (.t 51) (.c (aint 0))) false [] <|
              .nil)
             (.t 52) (.c (abool false)) <|
           .one (some 54) (.mv (.t 53)) false [] <|
           .sc 72 55 72 54 true
             (.one (some 55) (.mv (.t 12)) false [] <|
              .one (some 56) (.bin .eql (.t 55) (.c (aint 0))) false [] <|
              .one (some 57) (.mv (.t 56)) false [] <|
              .sc 71 58 71 57 false
                (.one (some 58) (.ld true 3 (.t 8)) false [] <|
                 .one (some 59) (.fa 0 (.t 3)) false [] <|
                 .one (some 60) (.ld false 1 (.t 59)) false [] <|
                 .one (some 61) (.bin .sub (.t 60) (.c (aint 1))) false [] <|
                 .one (some 62) (.call 9 (.c (.fn retry_By [] [])) [(.t 58), (.t 61)]) false [] <|
                 .one (some 63) (.bin .eql (.t 62) (.c (aint 0))) false [] <|
                 .one (some 64) (.mv (.t 63)) false [] <|
                 .sc 70 65 70 64 true
                   (.one (some 65) (.ld true 3 (.t 8)) false [] <|
                    .one (some 66) (.fa 0 (.t 3)) false [] <|
                    .one (some 67) (.ld false 1 (.t 66)) false [] <|
                    .one (some 68) (.call 10 (.c (.fn retry_By [] [])) [(.t 65), (.t 67)]) false [] <|
                    .one (some 69) (.bin .geq (.t 68) (.c (aint 1))) false [] <|
                    .nil)
                   (.t 69) (.c (abool false)) <|
                 .nil)
                (.c (abool true)) (.t 70) <|
              .nil)
             (.t 71) (.c (abool false)) <|
           .one (some 6) (.mv (.t 72)) false [] <|
           .nil)
          .ret))))))))),
 [.tmp 6], 11, .frozen⟩
theorem godwitlaw20_RetryBy_c : compFn Try.prog wrs modes 4 = some godwitlaw20_RetryBy_A := by kernel_rfl

/-- godwit/godwitlaw20.RetryDoubles -/
def godwitlaw20_RetryDoubles_A : AFun := ⟨
 (.seq
  (.region <|
   .one (some 2) (.box 0 (.t 0)) false [] <|
   .one (some 4) (.mv (.c (abool false))) false [] <|
   .nil)
  (.seq
   (.region <|
    .one (some 11) (.call 1 (.c (.fn godwitlaw20_awake [] [])) []) false [] <|
    .one (some 5) (.mv (.t 11)) false [] <|
    .nil)
   (.seq
    (.region <|
     .one (some 12) (.ld true 3 (.t 2)) false [] <|
     .one (some 6) (.alloc 2 (.agg [(aint 0), (aint 0), (aint 0)])) false [] <|
     .one none (.st 3 (.t 6) (.t 12)) false [] <|
     .nil)
    (.seq
     (.seq
      (.region <|
       .one (some 13) (.ld true 3 (.t 2)) false [] <|
       .one (some 14) (.call 3 (.c (.fn godwitref20_Sane [] [])) [(.t 13)]) false [] <|
       .one (some 15) (.un .not (.t 14)) false [] <|
       .one (some 16) (.mv (.t 15)) false [] <|
       .sc 20 17 20 16 false
         (.one (some 17) (.fa 0 (.t 2)) false [] <|
          .one (some 18) (.ld false 1 (.t 17)) false [] <|
          .one (some 19) (.bin .gtr (.t 18) (.c (aint 524288))) false [] <|
          .nil)
         (.c (abool true)) (.t 19) <|
       .one (some 21) (.mv (.t 20)) false [] <|
       .sc 25 22 25 21 false
         (.one (some 22) (.fa 1 (.t 2)) false [] <|
          .one (some 23) (.ld false 1 (.t 22)) false [] <|
          .one (some 24) (.bin .gtr (.t 23) (.c (aint 536870912))) false [] <|
          .nil)
         (.c (abool true)) (.t 24) <|
       .nil)
      (.cond (.t 25)
       (.seq
        (.region <|
         .one (some 26) (.mv (.t 5)) false [] <|
         .one (some 4) (.mv (.t 26)) false [] <|
         .nil)
        .ret)
       .skip))
     (.seq
      (.region <|
       .one (some 27) (.fa 0 (.t 2)) false [] <|
       .one (some 28) (.ld false 1 (.t 27)) false [] <|
       .one (some 29) (.bin .mul (.c (aint 2)) (.t 28)) false [] <|
       .one (some 30) (.fa 0 (.t 6)) false [] <|
       .one none (.st 1 (.t 30) (.t 29)) false [] <|
       .nil)
      (.seq
       (.region <|
        .one (some 31) (.fa 1 (.t 2)) false [] <|
        .one (some 32) (.ld false 1 (.t 31)) false [] <|
        .one (some 33) (.bin .mul (.c (aint 2)) (.t 32)) false [] <|
        .one (some 34) (.fa 1 (.t 6)) false [] <|
        .one none (.st 1 (.t 34) (.t 33)) false [] <|
        .nil)
       (.seq
        (.region <|
         .one (some 36) (.ld true 3 (.t 2)) false [] <|
         .one (some 37) (.call 4 (.c (.fn godwitlaw20_ours [] [])) [(.t 36)]) false [] <|
         .one (some 38) (.mv (.t 1)) false [] <|
         .one (some 39) (.call 5 (.c (.fn retry_Delay [] [])) [(.t 37), (.t 38)]) false [] <|
         .one (some 35) (.mv (.t 39)) false [] <|
         .one (some 40) (.ext (.t 35) 0) false [] <|
         .one (some 41) (.ext (.t 35) 1) false [] <|
         .one (some 7) (.mv (.t 40)) false [] <|
         .one (some 8) (.mv (.t 41)) false [] <|
         .nil)
        (.seq
         (.region <|
          .one (some 43) (.ld true 3 (.t 6)) false [] <|
          .one (some 44) (.call 6 (.c (.fn godwitlaw20_ours [] [])) [(.t 43)]) false [] <|
          .one (some 45) (.mv (.t 1)) false [] <|
          .one (some 46) (.call 7 (.c (.fn retry_Delay [] [])) [(.t 44), (.t 45)]) false [] <|
          .one (some 42) (.mv (.t 46)) false [] <|
          .one (some 47) (.ext (.t 42) 0) false [] <|
          .one (some 48) (.ext (.t 42) 1) false [] <|
          .one (some 9) (.mv (.t 47)) false [] <|
          .one (some 10) (.mv (.t 48)) false [] <|
          .nil)
         (.seq
          (.region <|
           .one (some 49) (.mv (.t 5)) false [] <|
           .one (some 50) (.mv (.t 49)) false [] <|
           .sc 54 51 54 50 true
             (.one (some 51) (.mv (.t 8)) false [] <|
              .one (some 52) (.mv (.t 10)) false [] <|
              .one (some 53) (.beq false (.t 51) (.t 52)) false [] <|
              .nil)
             (.t 53) (.c (abool false)) <|
           .one (some 55) (.mv (.t 54)) false [] <|
           .sc 60 56 60 55 true
             (.one (some 56) (.mv (.t 9)) false [] <|
              .one (some 57) (.mv (.t 7)) false [] <|
              .one (some 58) (.bin .mul (.c (aint 2)) (.t 57)) false [] <|
              .one (some 59) (.bin .eql (.t 56) (.t 58)) false [] <|
              .nil)
             (.t 59) (.c (abool false)) <|
           .one (some 61) (.mv (.t 60)) false [] <|
           .sc 70 62 70 61 true
             (.one (some 62) (.ld true 3 (.t 6)) false [] <|
              .one (some 63) (.call 8 (.c (.fn godwitlaw20_ours [] [])) [(.t 62)]) true [] <|
              .one (some 64) (.call 9 (.c (.fn retry_Total [] [])) [(.t 63)]) true [] <|
              .one (some 65) (.ld true 3 (.t 2)) false [] <|
              .one (some 66) (.call 10 (.c (.fn godwitlaw20_ours [] [])) [(.t 65)]) false [] <|
              .one (some 67) (.call 11 (.c (.fn retry_Total [] [])) [(.t 66)]) false [] <|
              .one (some 68) (.bin .mul (.c (aint 2)) (.t 67)) false [] <|
              .one (some 69) (.bin .eql (.t 64) (.t 68)) false [] <|
              .nil)
             (.t 69) (.c (abool false)) <|
           .one (some 4) (.mv (.t 70)) false [] <|
           .nil)
          .ret))))))))),
 [.tmp 4], 12, .frozen⟩
theorem godwitlaw20_RetryDoubles_c : compFn Try.prog wrs modes 5 = some godwitlaw20_RetryDoubles_A := by kernel_rfl

/-- godwit/godwitlaw20.RetryFew -/
def godwitlaw20_RetryFew_A : AFun := ⟨
 (.seq
  (.region <|
   .one (some 3) (.box 0 (.t 0)) false [] <|
   .one (some 6) (.mv (.c (abool false))) false [] <|
   .nil)
  (.seq
   (.region <|
    .one (some 13) (.call 1 (.c (.fn godwitlaw20_awake [] [])) []) false [] <|
    .one (some 7) (.mv (.t 13)) false [] <|
    .nil)
   (.seq
    (.region <|
     .one (some 14) (.ld true 3 (.t 3)) false [] <|
     .one (some 8) (.alloc 2 (.agg [(aint 0), (aint 0), (aint 0)])) false [] <|
     .one none (.st 3 (.t 8) (.t 14)) false [] <|
     .nil)
    (.seq
     (.seq
      (.region <|
       .one (some 15) (.ld true 3 (.t 3)) false [] <|
       .one (some 16) (.call 3 (.c (.fn godwitref20_Sane [] [])) [(.t 15)]) false [] <|
       .one (some 17) (.un .not (.t 16)) false [] <|
       .nil)
      (.cond (.t 17)
       (.seq
        (.region <|
         .one (some 18) (.mv (.t 7)) false [] <|
         .one (some 6) (.mv (.t 18)) false [] <|
         .nil)
        .ret)
       .skip))
     (.seq
      (.region <|
       .one (some 19) (.mv (.t 1)) false [] <|
       .one (some 20) (.bin .and (.t 19) (.c (aint 255))) false [] <|
       .one (some 21) (.fa 2 (.t 3)) false [] <|
       .one (some 22) (.ld false 1 (.t 21)) false [] <|
       .one (some 23) (.bin .add (.t 22) (.c (aint 1))) false [] <|
       .one (some 24) (.bin .rem (.t 20) (.t 23)) false [] <|
       .one (some 25) (.fa 2 (.t 8)) false [] <|
       .one none (.st 1 (.t 25) (.t 24)) false [] <|
       .nil)
      (.seq
       (.region <|
        .one (some 27) (.ld true 3 (.t 3)) false [] <|
        .one (some 28) (.call 4 (.c (.fn godwitlaw20_ours [] [])) [(.t 27)]) false [] <|
        .one (some 29) (.mv (.t 2)) false [] <|
        .one (some 30) (.call 5 (.c (.fn retry_Delay [] [])) [(.t 28), (.t 29)]) false [] <|
        .one (some 26) (.mv (.t 30)) false [] <|
        .one (some 31) (.ext (.t 26) 0) false [] <|
        .one (some 32) (.ext (.t 26) 1) false [] <|
        .one (some 9) (.mv (.t 31)) false [] <|
        .one (some 10) (.mv (.t 32)) false [] <|
        .nil)
       (.seq
        (.region <|
         .one (some 34) (.ld true 3 (.t 8)) false [] <|
         .one (some 35) (.call 6 (.c (.fn godwitlaw20_ours [] [])) [(.t 34)]) false [] <|
         .one (some 36) (.mv (.t 2)) false [] <|
         .one (some 37) (.call 7 (.c (.fn retry_Delay [] [])) [(.t 35), (.t 36)]) false [] <|
         .one (some 33) (.mv (.t 37)) false [] <|
         .one (some 38) (.ext (.t 33) 0) false [] <|
         .one (some 39) (.ext (.t 33) 1) false [] <|
         .one (some 11) (.mv (.t 38)) false [] <|
         .one (some 12) (.mv (.t 39)) false [] <|
         .nil)
        (.seq
         (.region <|
          .one (some 40) (.mv (.t 7)) false [] <|
          .one (some 41) (.mv (.t 40)) false [] <|
          .sc 51 42 51 41 true
            (.one (some 42) (.mv (.t 12)) false [] <|
             .one (some 43) (.mv (.t 10)) false [] <|
             .one (some 44) (.mv (.t 43)) false [] <|
             .sc 49 45 49 44 true
               (.one (some 45) (.mv (.t 2)) false [] <|
                .one (some 46) (.fa 2 (.t 8)) false [] <|
                .one (some 47) (.ld false 1 (.t 46)) false [] <|
                .one (some 48) (.bin .lss (.t 45) (.t 47)) false [] <|
                .nil)
               (.t 48) (.c (abool false)) <|
             .one (some 50) (.beq false (.t 42) (.t 49)) false [] <|
             .nil)
            (.t 50) (.c (abool false)) <|
          .one (some 52) (.mv (.t 51)) false [] <|
          .sc 60 53 60 52 true
            (.one (some 53) (.mv (.t 12)) false [] <|
             .one (some 54) (.un .not (.t 53)) false [] <|
             .one (some 55) (.mv (.t 54)) false [] <|
             .sc 59 56 59 55 false
               (.one (some 56) (.mv (.t 9)) false [] <|
                .one (some 57) (.mv (.t 11)) false [] <|
                .one (some 58) (.bin .eql (.t 56) (.t 57)) false [] <|
                .nil)
               (.c (abool true)) (.t 58) <|
             .nil)
            (.t 59) (.c (abool false)) <|
          .one (some 61) (.mv (.t 60)) false [] <|
          .sc 69 62 69 61 true
            (.one (some 62) (.ld true 3 (.t 8)) false [] <|
             .one (some 63) (.call 8 (.c (.fn godwitlaw20_ours [] [])) [(.t 62)]) true [] <|
             .one (some 64) (.call 9 (.c (.fn retry_Total [] [])) [(.t 63)]) true [] <|
             .one (some 65) (.ld true 3 (.t 3)) false [] <|
             .one (some 66) (.call 10 (.c (.fn godwitlaw20_ours [] [])) [(.t 65)]) false [] <|
             .one (some 67) (.call 11 (.c (.fn retry_Total [] [])) [(.t 66)]) false [] <|
             .one (some 68) (.bin .leq (.t 64) (.t 67)) false [] <|
             .nil)
            (.t 68) (.c (abool false)) <|
          .one (some 70) (.mv (.t 69)) false [] <|
          .sc 77 71 77 70 true
            (.one (some 71) (.ld true 3 (.t 8)) false [] <|
             .one (some 72) (.call 12 (.c (.fn godwitlaw20_ours [] [])) [(.t 71)]) true [] <|
             .one (some 73) (.call 13 (.c (.fn retry_By [] [])) [(.t 72), (.c (aint 1099511627776))]) true [] <|
             .one (some 74) (.fa 2 (.t 8)) false [] <|
             .one (some 75) (.ld false 1 (.t 74)) false [] <|
             .one (some 76) (.bin .eql (.t 73) (.t 75)) false [] <|
             .nil)
            (.t 76) (.c (abool false)) <|
          .one (some 6) (.mv (.t 77)) false [] <|
          .nil)
         .ret)))))))),
 [.tmp 6], 14, .frozen⟩
theorem godwitlaw20_RetryFew_c : compFn Try.prog wrs modes 6 = some godwitlaw20_RetryFew_A := by kernel_rfl

/-- godwit/godwitlaw20.RetryIs -/
def godwitlaw20_RetryIs_A : AFun := ⟨
 (.seq
  (.region <|
   .one (some 4) (.box 0 (.t 0)) false [] <|
   .one (some 8) (.mv (.c (abool false))) false [] <|
   .nil)
  (.seq
   (.region <|
    .one (some 19) (.call 1 (.c (.fn godwitlaw20_awake [] [])) []) false [] <|
    .one (some 9) (.mv (.t 19)) false [] <|
    .nil)
   (.seq
    (.region <|
     .one (some 20) (.ld true 3 (.t 4)) false [] <|
     .one (some 21) (.call 2 (.c (.fn godwitlaw20_ours [] [])) [(.t 20)]) false [] <|
     .one (some 10) (.alloc 3 (.agg [(aint 0), (aint 0), (aint 0)])) false [] <|
     .one none (.st 3 (.t 10) (.t 21)) false [] <|
     .nil)
    (.seq
     (.region <|
      .one (some 23) (.ld true 3 (.t 10)) false [] <|
      .one (some 24) (.mv (.t 1)) false [] <|
      .one (some 25) (.call 4 (.c (.fn retry_Delay [] [])) [(.t 23), (.t 24)]) false [] <|
      .one (some 22) (.mv (.t 25)) false [] <|
      .one (some 26) (.ext (.t 22) 0) false [] <|
      .one (some 27) (.ext (.t 22) 1) false [] <|
      .one (some 11) (.mv (.t 26)) false [] <|
      .one (some 12) (.mv (.t 27)) false [] <|
      .nil)
     (.seq
      (.region <|
       .one (some 29) (.ld true 3 (.t 4)) false [] <|
       .one (some 30) (.mv (.t 1)) false [] <|
       .one (some 31) (.call 5 (.c (.fn godwitref20_Delay [] [])) [(.t 29), (.t 30)]) false [] <|
       .one (some 28) (.mv (.t 31)) false [] <|
       .one (some 32) (.ext (.t 28) 0) false [] <|
       .one (some 33) (.ext (.t 28) 1) false [] <|
       .one (some 13) (.mv (.t 32)) false [] <|
       .one (some 14) (.mv (.t 33)) false [] <|
       .nil)
      (.seq
       (.region <|
        .one (some 35) (.ld true 3 (.t 10)) false [] <|
        .one (some 36) (.mv (.t 1)) false [] <|
        .one (some 37) (.mv (.t 3)) false [] <|
        .one (some 38) (.call 6 (.c (.fn retry_Spread [] [])) [(.t 35), (.t 36), (.t 37)]) false [] <|
        .one (some 34) (.mv (.t 38)) false [] <|
        .one (some 39) (.ext (.t 34) 0) false [] <|
        .one (some 40) (.ext (.t 34) 1) false [] <|
        .one (some 15) (.mv (.t 39)) false [] <|
        .one (some 16) (.mv (.t 40)) false [] <|
        .nil)
       (.seq
        (.region <|
         .one (some 42) (.ld true 3 (.t 4)) false [] <|
         .one (some 43) (.mv (.t 1)) false [] <|
         .one (some 44) (.mv (.t 3)) false [] <|
         .one (some 45) (.call 7 (.c (.fn godwitref20_Spread [] [])) [(.t 42), (.t 43), (.t 44)]) false [] <|
         .one (some 41) (.mv (.t 45)) false [] <|
         .one (some 46) (.ext (.t 41) 0) false [] <|
         .one (some 47) (.ext (.t 41) 1) false [] <|
         .one (some 17) (.mv (.t 46)) false [] <|
         .one (some 18) (.mv (.t 47)) false [] <|
         .nil)
        (.seq
         (.region <|
          .one (some 48) (.mv (.t 9)) false [] <|
          .one (some 49) (.mv (.t 48)) false [] <|
          .sc 53 50 53 49 true
            (.one (some 50) (.mv (.t 11)) false [] <|
             .one (some 51) (.mv (.t 13)) false [] <|
             .one (some 52) (.bin .eql (.t 50) (.t 51)) false [] <|
             .nil)
            (.t 52) (.c (abool false)) <|
          .one (some 54) (.mv (.t 53)) false [] <|
          .sc 58 55 58 54 true
            (.one (some 55) (.mv (.t 12)) false [] <|
             .one (some 56) (.mv (.t 14)) false [] <|
             .one (some 57) (.beq false (.t 55) (.t 56)) false [] <|
             .nil)
            (.t 57) (.c (abool false)) <|
          .one (some 59) (.mv (.t 58)) false [] <|
          .sc 63 60 63 59 true
            (.one (some 60) (.mv (.t 15)) false [] <|
             .one (some 61) (.mv (.t 17)) false [] <|
             .one (some 62) (.bin .eql (.t 60) (.t 61)) false [] <|
             .nil)
            (.t 62) (.c (abool false)) <|
          .one (some 64) (.mv (.t 63)) false [] <|
          .sc 68 65 68 64 true
            (.one (some 65) (.mv (.t 16)) false [] <|
             .one (some 66) (.mv (.t 18)) false [] <|
             .one (some 67) (.beq false (.t 65) (.t 66)) false [] <|
             .nil)
            (.t 67) (.c (abool false)) <|
          .one (some 69) (.mv (.t 68)) false [] <|
          .sc 75 70 75 69 true
            (.one (some 70) (.ld true 3 (.t 10)) false [] <|
             .one (some 71) (.call 8 (.c (.fn retry_Sane [] [])) [(.t 70)]) true [] <|
             .one (some 72) (.ld true 3 (.t 4)) false [] <|
             .one (some 73) (.call 9 (.c (.fn godwitref20_Sane [] [])) [(.t 72)]) false [] <|
             .one (some 74) (.beq false (.t 71) (.t 73)) false [] <|
             .nil)
            (.t 74) (.c (abool false)) <|
          .one (some 76) (.mv (.t 75)) false [] <|
          .sc 82 77 82 76 true
            (.one (some 77) (.ld true 3 (.t 10)) false [] <|
             .one (some 78) (.call 10 (.c (.fn retry_Total [] [])) [(.t 77)]) true [] <|
             .one (some 79) (.ld true 3 (.t 4)) false [] <|
             .one (some 80) (.call 11 (.c (.fn godwitref20_Total [] [])) [(.t 79)]) false [] <|
             .one (some 81) (.bin .eql (.t 78) (.t 80)) false [] <|
             .nil)
            (.t 81) (.c (abool false)) <|
          .one (some 83) (.mv (.t 82)) false [] <|
          .sc 91 84 91 83 true
            (.one (some 84) (.ld true 3 (.t 10)) false [] <|
             .one (some 85) (.mv (.t 2)) false [] <|
             .one (some 86) (.call 12 (.c (.fn retry_By [] [])) [(.t 84), (.t 85)]) true [] <|
             .one (some 87) (.ld true 3 (.t 4)) false [] <|
             .one (some 88) (.mv (.t 2)) false [] <|
             .one (some 89) (.call 13 (.c (.fn godwitref20_By [] [])) [(.t 87), (.t 88)]) false [] <|
             .one (some 90) (.bin .eql (.t 86) (.t 89)) false [] <|
             .nil)
            (.t 90) (.c (abool false)) <|
          .one (some 8) (.mv (.t 91)) false [] <|
          .nil)
         .ret)))))))),
 [.tmp 8], 14, .frozen⟩
theorem godwitlaw20_RetryIs_c : compFn Try.prog wrs modes 7 = some godwitlaw20_RetryIs_A := by kernel_rfl

/-- godwit/godwitlaw20.RetrySpread -/
def godwitlaw20_RetrySpread_A : AFun := ⟨
 (.seq
  (.region <|
   .one (some 3) (.box 0 (.t 0)) false [] <|
   .one (some 6) (.mv (.c (abool false))) false [] <|
   .nil)
  (.seq
   (.region <|
    .one (some 15) (.call 1 (.c (.fn godwitlaw20_awake [] [])) []) false [] <|
    .one (some 7) (.mv (.t 15)) false [] <|
    .nil)
   (.seq
    (.region <|
     .one (some 16) (.ld true 3 (.t 3)) false [] <|
     .one (some 17) (.call 2 (.c (.fn godwitlaw20_ours [] [])) [(.t 16)]) false [] <|
     .one (some 8) (.alloc 3 (.agg [(aint 0), (aint 0), (aint 0)])) false [] <|
     .one none (.st 3 (.t 8) (.t 17)) false [] <|
     .nil)
    (.seq
     (.region <|
      .one (some 19) (.ld true 3 (.t 8)) false [] <|
      .one (some 20) (.mv (.t 1)) false [] <|
      .one (some 21) (.call 4 (.c (.fn retry_Delay [] [])) [(.t 19), (.t 20)]) false [] <|
      .one (some 18) (.mv (.t 21)) false [] <|
      .one (some 22) (.ext (.t 18) 0) false [] <|
      .one (some 23) (.ext (.t 18) 1) false [] <|
      .one (some 9) (.mv (.t 22)) false [] <|
      .one (some 10) (.mv (.t 23)) false [] <|
      .nil)
     (.seq
      (.region <|
       .one (some 25) (.ld true 3 (.t 8)) false [] <|
       .one (some 26) (.mv (.t 1)) false [] <|
       .one (some 27) (.mv (.t 2)) false [] <|
       .one (some 28) (.call 5 (.c (.fn retry_Spread [] [])) [(.t 25), (.t 26), (.t 27)]) false [] <|
       .one (some 24) (.mv (.t 28)) false [] <|
       .one (some 29) (.ext (.t 24) 0) false [] <|
       .one (some 30) (.ext (.t 24) 1) false [] <|
       .one (some 11) (.mv (.t 29)) false [] <|
       .one (some 12) (.mv (.t 30)) false [] <|
       .nil)
      (.seq
       (.region <|
        .one (some 32) (.ld true 3 (.t 8)) false [] <|
        .one (some 33) (.mv (.t 1)) false [] <|
        .one (some 34) (.mv (.t 2)) false [] <|
        .one (some 35) (.call 6 (.c (.fn retry_Spread [] [])) [(.t 32), (.t 33), (.t 34)]) false [] <|
        .one (some 31) (.mv (.t 35)) false [] <|
        .one (some 36) (.ext (.t 31) 0) false [] <|
        .one (some 37) (.ext (.t 31) 1) false [] <|
        .one (some 13) (.mv (.t 36)) false [] <|
        .one (some 14) (.mv (.t 37)) false [] <|
        .nil)
       (.seq
        (.region <|
         .one (some 38) (.mv (.t 7)) false [] <|
         .one (some 39) (.mv (.t 38)) false [] <|
         .sc 43 40 43 39 true
           (.one (some 40) (.mv (.t 10)) false [] <|
            .one (some 41) (.mv (.t 12)) false [] <|
            .one (some 42) (.beq false (.t 40) (.t 41)) false [] <|
            .nil)
           (.t 42) (.c (abool false)) <|
         .one (some 44) (.mv (.t 43)) false [] <|
         .sc 48 45 48 44 true
           (.one (some 45) (.mv (.t 12)) false [] <|
            .one (some 46) (.mv (.t 14)) false [] <|
            .one (some 47) (.beq false (.t 45) (.t 46)) false [] <|
            .nil)
           (.t 47) (.c (abool false)) <|
         .one (some 49) (.mv (.t 48)) false [] <|
         .sc 53 50 53 49 true
           (.one (some 50) (.mv (.t 11)) false [] <|
            .one (some 51) (.mv (.t 13)) false [] <|
            .one (some 52) (.bin .eql (.t 50) (.t 51)) false [] <|
            .nil)
           (.t 52) (.c (abool false)) <|
         .one (some 54) (.mv (.t 53)) false [] <|
         .sc 87 55 87 54 true
           (.one (some 55) (.mv (.t 10)) false [] <|
            .one (some 56) (.un .not (.t 55)) false [] <|
            .one (some 57) (.mv (.t 56)) false [] <|
            .sc 60 58 60 57 true
              (.one (some 58) (.mv (.t 11)) false [] <|
               .one (some 59) (.bin .eql (.t 58) (.c (aint 0))) false [] <|
               .nil)
              (.t 59) (.c (abool false)) <|
            .one (some 61) (.mv (.t 60)) false [] <|
            .sc 86 62 86 61 false
              (.one (some 62) (.mv (.t 10)) false [] <|
               .one (some 63) (.mv (.t 62)) false [] <|
               .sc 67 64 67 63 true
                 (.one (some 64) (.mv (.t 11)) false [] <|
                  .one (some 65) (.mv (.t 9)) false [] <|
                  .one (some 66) (.bin .geq (.t 64) (.t 65)) false [] <|
                  .nil)
                 (.t 66) (.c (abool false)) <|
               .one (some 68) (.mv (.t 67)) false [] <|
               .sc 75 69 75 68 true
                 (.one (some 69) (.mv (.t 11)) false [] <|
                  .one (some 70) (.mv (.t 9)) false [] <|
                  .one (some 71) (.mv (.t 9)) false [] <|
                  .one (some 72) (.bin .quo (.t 71) (.c (aint 2))) false [] <|
                  .one (some 73) (.bin .add (.t 70) (.t 72)) false [] <|
                  .one (some 74) (.bin .leq (.t 69) (.t 73)) false [] <|
                  .nil)
                 (.t 74) (.c (abool false)) <|
               .one (some 76) (.mv (.t 75)) false [] <|
               .sc 85 77 85 76 true
                 (.one (some 77) (.mv (.t 11)) false [] <|
                  .one (some 78) (.fa 1 (.t 3)) false [] <|
                  .one (some 79) (.ld false 1 (.t 78)) false [] <|
                  .one (some 80) (.fa 1 (.t 3)) false [] <|
                  .one (some 81) (.ld false 1 (.t 80)) false [] <|
                  .one (some 82) (.bin .quo (.t 81) (.c (aint 2))) false [] <|
                  .one (some 83) (.bin .add (.t 79) (.t 82)) false [] <|
                  .one (some 84) (.bin .leq (.t 77) (.t 83)) false [] <|
                  .nil)
                 (.t 84) (.c (abool false)) <|
               .nil)
              (.c (abool true)) (.t 85) <|
            .nil)
           (.t 86) (.c (abool false)) <|
         .one (some 6) (.mv (.t 87)) false [] <|
         .nil)
        .ret))))))),
 [.tmp 6], 7, .frozen⟩
theorem godwitlaw20_RetrySpread_c : compFn Try.prog wrs modes 8 = some godwitlaw20_RetrySpread_A := by kernel_rfl

/-- godwit/godwitlaw20.awake -/
def godwitlaw20_awake_A : AFun := ⟨
 (.seq
  (.region <|
   .one (some 0) (.mv (.c (abool false))) false [] <|
   .nil)
  (.seq
   (.region <|
    .one (some 8) (.bld [(aint 0), (aint 0), (aint 0)] [(0, 1, (.c (aint 3))), (1, 1, (.c (aint 20))), (2, 1, (.c (aint 5)))]) false [] <|
    .one (some 1) (.alloc 0 (.agg [(aint 0), (aint 0), (aint 0)])) false [] <|
    .one none (.st 3 (.t 1) (.t 8)) false [] <|
    .nil)
   (.seq
    (.region <|
     .one (some 10) (.ld true 3 (.t 1)) false [] <|
     .one (some 11) (.call 1 (.c (.fn retry_Delay [] [])) [(.t 10), (.c (aint 2))]) false [] <|
     .one (some 9) (.mv (.t 11)) false [] <|
     .one (some 12) (.ext (.t 9) 0) false [] <|
     .one (some 13) (.ext (.t 9) 1) false [] <|
     .one (some 2) (.mv (.t 12)) false [] <|
     .one (some 3) (.mv (.t 13)) false [] <|
     .nil)
    (.seq
     (.region <|
      .one (some 15) (.ld true 3 (.t 1)) false [] <|
      .one (some 16) (.call 2 (.c (.fn retry_Delay [] [])) [(.t 15), (.c (aint 4))]) false [] <|
      .one (some 14) (.mv (.t 16)) false [] <|
      .one (some 17) (.ext (.t 14) 0) false [] <|
      .one (some 18) (.ext (.t 14) 1) false [] <|
      .one (some 4) (.mv (.t 17)) false [] <|
      .one (some 5) (.mv (.t 18)) false [] <|
      .nil)
     (.seq
      (.region <|
       .one (some 20) (.ld true 3 (.t 1)) false [] <|
       .one (some 21) (.call 3 (.c (.fn retry_Delay [] [])) [(.t 20), (.c (aint 5))]) false [] <|
       .one (some 19) (.mv (.t 21)) false [] <|
       .one (some 22) (.ext (.t 19) 0) false [] <|
       .one (some 23) (.ext (.t 19) 1) false [] <|
       .one (some 6) (.mv (.t 22)) false [] <|
       .one (some 7) (.mv (.t 23)) false [] <|
       .nil)
      (.seq
       (.region <|
        .one (some 24) (.ld true 3 (.t 1)) false [] <|
        .one (some 25) (.call 4 (.c (.fn retry_Sane [] [])) [(.t 24)]) false [] <|
        .one (some 26) (.mv (.t 25)) false [] <|
        .sc 28 27 28 26 true
          (.one (some 27) (.mv (.t 3)) false [] <|
           .nil)
          (.t 27) (.c (abool false)) <|
        .one (some 29) (.mv (.t 28)) false [] <|
        .sc 31 30 31 29 true
          (.one (some 30) (.mv (.t 5)) false [] <|
           .nil)
          (.t 30) (.c (abool false)) <|
        .one (some 32) (.mv (.t 31)) false [] <|
        .sc 35 33 35 32 true
          (.one (some 33) (.mv (.t 7)) false [] <|
           .one (some 34) (.un .not (.t 33)) false [] <|
           .nil)
          (.t 34) (.c (abool false)) <|
        .one (some 36) (.mv (.t 35)) false [] <|
        .sc 39 37 39 36 true
          (.one (some 37) (.mv (.t 2)) false [] <|
           .one (some 38) (.bin .eql (.t 37) (.c (aint 12))) false [] <|
           .nil)
          (.t 38) (.c (abool false)) <|
        .one (some 40) (.mv (.t 39)) false [] <|
        .sc 43 41 43 40 true
          (.one (some 41) (.mv (.t 4)) false [] <|
           .one (some 42) (.bin .eql (.t 41) (.c (aint 20))) false [] <|
           .nil)
          (.t 42) (.c (abool false)) <|
        .one (some 44) (.mv (.t 43)) false [] <|
        .sc 48 45 48 44 true
          (.one (some 45) (.ld true 3 (.t 1)) false [] <|
           .one (some 46) (.call 5 (.c (.fn retry_Total [] [])) [(.t 45)]) false [] <|
           .one (some 47) (.bin .eql (.t 46) (.c (aint 61))) false [] <|
           .nil)
          (.t 47) (.c (abool false)) <|
        .one (some 49) (.mv (.t 48)) false [] <|
        .sc 53 50 53 49 true
          (.one (some 50) (.ld true 3 (.t 1)) false [] <|
           .one (some 51) (.call 6 (.c (.fn retry_By [] [])) [(.t 50), (.c (aint 9))]) false [] <|
           .one (some 52) (.bin .eql (.t 51) (.c (aint 2))) false [] <|
           .nil)
          (.t 52) (.c (abool false)) <|
        .one (some 0) (.mv (.t 53)) false [] <|
        .nil)
       .ret)))))),
 [.tmp 0], 7, .frozen⟩
theorem godwitlaw20_awake_c : compFn Try.prog wrs modes 9 = some godwitlaw20_awake_A := by kernel_rfl

/-- godwit/godwitlaw20.ours -/
def godwitlaw20_ours_A : AFun := ⟨
 (.seq
  (.region <|
   .one (some 1) (.box 0 (.t 0)) false [] <|
   .one (some 2) (.alloc 1 (.agg [(aint 0), (aint 0), (aint 0)])) false [] <|
   .nil)
  (.seq
   (.region <|
    .one (some 3) (.fa 0 (.t 1)) false [] <|
    .one (some 4) (.ld false 1 (.t 3)) false [] <|
    .one (some 5) (.fa 1 (.t 1)) false [] <|
    .one (some 6) (.ld false 1 (.t 5)) false [] <|
    .one (some 7) (.fa 2 (.t 1)) false [] <|
    .one (some 8) (.ld false 1 (.t 7)) false [] <|
    .one (some 9) (.bld [(aint 0), (aint 0), (aint 0)] [(0, 1, (.t 4)), (1, 1, (.t 6)), (2, 1, (.t 8))]) false [] <|
    .one none (.st 3 (.t 2) (.t 9)) false [] <|
    .nil)
   .ret)),
 [.cell 2 true 3], 2, .frozen⟩
theorem godwitlaw20_ours_c : compFn Try.prog wrs modes 10 = some godwitlaw20_ours_A := by kernel_rfl

/-- godwit/retry.Delay -/
def retry_Delay_A0 : ACode :=
 (.seq
  (.region <|
   .one (some 6) (.mv (.t 10)) false [] <|
   .nil)
  (.region <|
   .one (some 7) (.mv (.t 11)) false [] <|
   .nil))
def retry_Delay_R0 : ACode :=
 (.block 1
  (.seq
   (.region <|
    .one (some 12) (.mv (.t 6)) false [] <|
    .one (some 13) (.ld false 1 (.t 3)) false [] <|
    .one (some 14) (.bin .eql (.t 12) (.t 13)) false [] <|
    .nil)
   (.cond (.t 14)
    (.seq
     (.region <|
      .one (some 15) (.mv (.t 7)) false [] <|
      .one none (.st 1 (.t 4) (.t 15)) false [] <|
      .one none (.st 1 (.t 5) (.c (abool true))) false [] <|
      .nil)
     .ret)
    .skip)))
def retry_Delay_A : AFun := ⟨
 (.seq
  (.region <|
   .one (some 2) (.box 0 (.t 0)) false [] <|
   .one (some 3) (.box 1 (.t 1)) false [] <|
   .one (some 4) (.alloc 2 (aint 0)) false [] <|
   .one (some 5) (.alloc 3 (abool false)) false [] <|
   .nil)
  (.seq
   (.seq
    (.region <|
     .one (some 8) (.ld true 3 (.t 2)) false [] <|
     .one (some 9) (.call 4 (.c (.fn _retry_Plan__delays [] [])) [(.t 8)]) false [] <|
     .nil)
    (.block 0
     (.rangeFunc 5 (.t 9) [10, 11] retry_Delay_A0 retry_Delay_R0)))
   (.seq
    (.region <|
     .one none (.st 1 (.t 4) (.c (aint 0))) false [] <|
     .one none (.st 1 (.t 5) (.c (abool false))) false [] <|
     .nil)
    .ret))),
 [.cell 4 false 1, .cell 5 false 1], 6, .frozen⟩
theorem retry_Delay_c : compFn Try.prog wrs modes 11 = some retry_Delay_A := by kernel_rfl

/-- godwit/retry.Sane -/
def retry_Sane_A : AFun := ⟨
 (.seq
  (.region <|
   .one (some 1) (.box 0 (.t 0)) false [] <|
   .one (some 2) (.mv (.c (abool false))) false [] <|
   .nil)
  (.seq
   (.region <|
    .one (some 3) (.fa 0 (.t 1)) false [] <|
    .one (some 4) (.ld false 1 (.t 3)) false [] <|
    .one (some 5) (.bin .geq (.t 4) (.c (aint 1))) false [] <|
    .one (some 6) (.mv (.t 5)) false [] <|
    .sc 10 7 10 6 true
      (.one (some 7) (.fa 0 (.t 1)) false [] <|
       .one (some 8) (.ld false 1 (.t 7)) false [] <|
       .one (some 9) (.bin .leq (.t 8) (.c (aint 1048576))) false [] <|
       .nil)
      (.t 9) (.c (abool false)) <|
    .one (some 11) (.mv (.t 10)) false [] <|
    .sc 17 12 17 11 true
      (.one (some 12) (.fa 1 (.t 1)) false [] <|
       .one (some 13) (.ld false 1 (.t 12)) false [] <|
       .one (some 14) (.fa 0 (.t 1)) false [] <|
       .one (some 15) (.ld false 1 (.t 14)) false [] <|
       .one (some 16) (.bin .geq (.t 13) (.t 15)) false [] <|
       .nil)
      (.t 16) (.c (abool false)) <|
    .one (some 18) (.mv (.t 17)) false [] <|
    .sc 22 19 22 18 true
      (.one (some 19) (.fa 1 (.t 1)) false [] <|
       .one (some 20) (.ld false 1 (.t 19)) false [] <|
       .one (some 21) (.bin .leq (.t 20) (.c (aint 1073741824))) false [] <|
       .nil)
      (.t 21) (.c (abool false)) <|
    .one (some 23) (.mv (.t 22)) false [] <|
    .sc 27 24 27 23 true
      (.one (some 24) (.fa 2 (.t 1)) false [] <|
       .one (some 25) (.ld false 1 (.t 24)) false [] <|
       .one (some 26) (.bin .geq (.t 25) (.c (aint 0))) false [] <|
       .nil)
      (.t 26) (.c (abool false)) <|
    .one (some 28) (.mv (.t 27)) false [] <|
    .sc 32 29 32 28 true
      (.one (some 29) (.fa 2 (.t 1)) false [] <|
       .one (some 30) (.ld false 1 (.t 29)) false [] <|
       .one (some 31) (.bin .leq (.t 30) (.c (aint 100))) false [] <|
       .nil)
      (.t 31) (.c (abool false)) <|
    .one (some 2) (.mv (.t 32)) false [] <|
    .nil)
   .ret)),
 [.tmp 2], 1, .frozen⟩
theorem retry_Sane_c : compFn Try.prog wrs modes 12 = some retry_Sane_A := by kernel_rfl

/-- godwit/retry.Total -/
def retry_Total_A0 : ACode :=
 (.region <|
  .one (some 5) (.mv (.t 9)) false [] <|
  .nil)
def retry_Total_R0 : ACode :=
 (.block 1
  (.region <|
   .one (some 10) (.ld false 1 (.t 3)) false [] <|
   .one (some 11) (.mv (.t 5)) false [] <|
   .one (some 12) (.bin .add (.t 10) (.t 11)) false [] <|
   .one none (.st 1 (.t 3) (.t 12)) false [] <|
   .nil))
def retry_Total_A : AFun := ⟨
 (.seq
  (.region <|
   .one (some 1) (.box 0 (.t 0)) false [] <|
   .one (some 2) (.mv (.c (aint 0))) false [] <|
   .nil)
  (.seq
   (.region <|
    .one (some 3) (.alloc 1 (aint 0)) false [] <|
    .one none (.st 1 (.t 3) (.c (aint 0))) false [] <|
    .nil)
   (.seq
    (.seq
     (.region <|
      .one (some 6) (.ld true 3 (.t 1)) false [] <|
      .one (some 7) (.call 2 (.c (.fn _retry_Plan__delays [] [])) [(.t 6)]) false [] <|
      .nil)
     (.block 0
      (.rangeFunc 3 (.t 7) [8, 9] retry_Total_A0 retry_Total_R0)))
    (.seq
     (.region <|
      .one (some 13) (.ld false 1 (.t 3)) false [] <|
      .one (some 2) (.mv (.t 13)) false [] <|
      .nil)
     .ret)))),
 [.tmp 2], 4, .frozen⟩
theorem retry_Total_c : compFn Try.prog wrs modes 13 = some retry_Total_A := by kernel_rfl

/-- godwit/retry.By -/
def retry_By_A0 : ACode :=
 (.seq
  (.region <|
   .one (some 7) (.mv (.t 11)) false [] <|
   .nil)
  (.region <|
   .one (some 8) (.mv (.t 12)) false [] <|
   .nil))
def retry_By_R0 : ACode :=
 (.block 1
  (.seq
   (.region <|
    .one (some 13) (.ld false 1 (.t 5)) false [] <|
    .one (some 14) (.mv (.t 8)) false [] <|
    .one (some 15) (.bin .add (.t 13) (.t 14)) false [] <|
    .one none (.st 1 (.t 5) (.t 15)) false [] <|
    .nil)
   (.seq
    (.seq
     (.region <|
      .one (some 16) (.ld false 1 (.t 5)) false [] <|
      .one (some 17) (.ld false 1 (.t 3)) false [] <|
      .one (some 18) (.bin .gtr (.t 16) (.t 17)) false [] <|
      .nil)
     (.cond (.t 18)
      (.exit 0)
      .skip))
    (.region <|
     .one (some 19) (.mv (.t 7)) false [] <|
     .one (some 20) (.bin .add (.t 19) (.c (aint 1))) false [] <|
     .one none (.st 1 (.t 6) (.t 20)) false [] <|
     .nil))))
def retry_By_A : AFun := ⟨
 (.seq
  (.region <|
   .one (some 2) (.box 0 (.t 0)) false [] <|
   .one (some 3) (.box 1 (.t 1)) false [] <|
   .one (some 4) (.mv (.c (aint 0))) false [] <|
   .nil)
  (.seq
   (.region <|
    .one (some 5) (.alloc 2 (aint 0)) false [] <|
    .one (some 6) (.alloc 3 (aint 0)) false [] <|
    .one none (.st 1 (.t 5) (.c (aint 0))) false [] <|
    .one none (.st 1 (.t 6) (.c (aint 0))) false [] <|
    .nil)
   (.seq
    (.seq
     (.region <|
      .one (some 9) (.ld true 3 (.t 2)) false [] <|
      .one (some 10) (.call 4 (.c (.fn _retry_Plan__delays [] [])) [(.t 9)]) false [] <|
      .nil)
     (.block 0
      (.rangeFunc 5 (.t 10) [11, 12] retry_By_A0 retry_By_R0)))
    (.seq
     (.region <|
      .one (some 21) (.ld false 1 (.t 6)) false [] <|
      .one (some 4) (.mv (.t 21)) false [] <|
      .nil)
     .ret)))),
 [.tmp 4], 6, .frozen⟩
theorem retry_By_c : compFn Try.prog wrs modes 14 = some retry_By_A := by kernel_rfl

/-- godwit/godwitref20.Sane -/
def godwitref20_Sane_A : AFun := ⟨
 (.seq
  (.region <|
   .one (some 1) (.box 0 (.t 0)) false [] <|
   .one (some 2) (.mv (.c (abool false))) false [] <|
   .nil)
  (.seq
   (.region <|
    .one (some 3) (.fa 0 (.t 1)) false [] <|
    .one (some 4) (.ld false 1 (.t 3)) false [] <|
    .one (some 5) (.bin .geq (.t 4) (.c (aint 1))) false [] <|
    .one (some 6) (.mv (.t 5)) false [] <|
    .sc 10 7 10 6 true
      (.one (some 7) (.fa 0 (.t 1)) false [] <|
       .one (some 8) (.ld false 1 (.t 7)) false [] <|
       .one (some 9) (.bin .leq (.t 8) (.c (aint 1048576))) false [] <|
       .nil)
      (.t 9) (.c (abool false)) <|
    .one (some 11) (.mv (.t 10)) false [] <|
    .sc 17 12 17 11 true
      (.one (some 12) (.fa 1 (.t 1)) false [] <|
       .one (some 13) (.ld false 1 (.t 12)) false [] <|
       .one (some 14) (.fa 0 (.t 1)) false [] <|
       .one (some 15) (.ld false 1 (.t 14)) false [] <|
       .one (some 16) (.bin .geq (.t 13) (.t 15)) false [] <|
       .nil)
      (.t 16) (.c (abool false)) <|
    .one (some 18) (.mv (.t 17)) false [] <|
    .sc 22 19 22 18 true
      (.one (some 19) (.fa 1 (.t 1)) false [] <|
       .one (some 20) (.ld false 1 (.t 19)) false [] <|
       .one (some 21) (.bin .leq (.t 20) (.c (aint 1073741824))) false [] <|
       .nil)
      (.t 21) (.c (abool false)) <|
    .one (some 23) (.mv (.t 22)) false [] <|
    .sc 27 24 27 23 true
      (.one (some 24) (.fa 2 (.t 1)) false [] <|
       .one (some 25) (.ld false 1 (.t 24)) false [] <|
       .one (some 26) (.bin .geq (.t 25) (.c (aint 0))) false [] <|
       .nil)
      (.t 26) (.c (abool false)) <|
    .one (some 28) (.mv (.t 27)) false [] <|
    .sc 32 29 32 28 true
      (.one (some 29) (.fa 2 (.t 1)) false [] <|
       .one (some 30) (.ld false 1 (.t 29)) false [] <|
       .one (some 31) (.bin .leq (.t 30) (.c (aint 100))) false [] <|
       .nil)
      (.t 31) (.c (abool false)) <|
    .one (some 2) (.mv (.t 32)) false [] <|
    .nil)
   .ret)),
 [.tmp 2], 1, .frozen⟩
theorem godwitref20_Sane_c : compFn Try.prog wrs modes 15 = some godwitref20_Sane_A := by kernel_rfl

/-- godwit/godwitref20.Delay -/
def godwitref20_Delay_L0 : ACode :=
 (.seq
  (.seq
   (.region <|
    .one (some 23) (.mv (.t 7)) false [] <|
    .one (some 24) (.mv (.t 1)) false [] <|
    .one (some 25) (.bin .lss (.t 23) (.t 24)) false [] <|
    .nil)
   (.cond (.t 25)
    .skip
    (.exit 0)))
  (.seq
   (.block 1
    (.region <|
     .one (some 28) (.mv (.t 6)) false [] <|
     .one (some 29) (.bin .mul (.c (aint 2)) (.t 28)) false [] <|
     .one (some 30) (.fa 1 (.t 2)) false [] <|
     .one (some 31) (.ld false 1 (.t 30)) false [] <|
     .one (some 32) (.min [(.t 29), (.t 31)]) false [] <|
     .one (some 6) (.mv (.t 32)) false [] <|
     .nil))
   (.region <|
    .one (some 26) (.mv (.t 7)) false [] <|
    .one (some 27) (.bin .add (.t 26) (.c (aint 1))) false [] <|
    .one (some 7) (.mv (.t 27)) false [] <|
    .nil)))
def godwitref20_Delay_A : AFun := ⟨
 (.seq
  (.region <|
   .one (some 2) (.box 0 (.t 0)) false [] <|
   .one (some 4) (.mv (.c (aint 0))) false [] <|
   .one (some 5) (.mv (.c (abool false))) false [] <|
   .nil)
  (.seq
   (.seq
    (.region <|
     .one (some 8) (.ld true 3 (.t 2)) false [] <|
     .one (some 9) (.call 1 (.c (.fn godwitref20_Sane [] [])) [(.t 8)]) false [] <|
     .one (some 10) (.un .not (.t 9)) false [] <|
     .one (some 11) (.mv (.t 10)) false [] <|
     .sc 14 12 14 11 false
       (.one (some 12) (.mv (.t 1)) false [] <|
        .one (some 13) (.bin .lss (.t 12) (.c (aint 0))) false [] <|
        .nil)
       (.c (abool true)) (.t 13) <|
     .one (some 15) (.mv (.t 14)) false [] <|
     .sc 20 16 20 15 false
       (.one (some 16) (.mv (.t 1)) false [] <|
        .one (some 17) (.fa 2 (.t 2)) false [] <|
        .one (some 18) (.ld false 1 (.t 17)) false [] <|
        .one (some 19) (.bin .geq (.t 16) (.t 18)) false [] <|
        .nil)
       (.c (abool true)) (.t 19) <|
     .nil)
    (.cond (.t 20)
     (.seq
      (.region <|
       .one (some 4) (.mv (.c (aint 0))) false [] <|
       .one (some 5) (.mv (.c (abool false))) false [] <|
       .nil)
      .ret)
     .skip))
   (.seq
    (.region <|
     .one (some 21) (.fa 0 (.t 2)) false [] <|
     .one (some 22) (.ld false 1 (.t 21)) false [] <|
     .one (some 6) (.mv (.t 22)) false [] <|
     .nil)
    (.seq
     (.seq
      (.region <|
       .one (some 7) (.mv (.c (aint 0))) false [] <|
       .nil)
      (.block 0
       (.loop godwitref20_Delay_L0)))
     (.seq
      (.region <|
       .one (some 33) (.mv (.t 6)) false [] <|
       .one (some 4) (.mv (.t 33)) false [] <|
       .one (some 5) (.mv (.c (abool true))) false [] <|
       .nil)
      .ret))))),
 [.tmp 4, .tmp 5], 2, .frozen⟩
theorem godwitref20_Delay_c : compFn Try.prog wrs modes 16 = some godwitref20_Delay_A := by kernel_rfl

/-- godwit/retry.Spread -/
def retry_Spread_A : AFun := ⟨
 (.seq
  (.region <|
   .one (some 3) (.box 0 (.t 0)) false [] <|
   .one (some 6) (.mv (.c (aint 0))) false [] <|
   .one (some 7) (.mv (.c (abool false))) false [] <|
   .nil)
  (.seq
   (.region <|
    .one (some 12) (.ld true 3 (.t 3)) false [] <|
    .one (some 13) (.mv (.t 1)) false [] <|
    .one (some 14) (.call 1 (.c (.fn retry_Delay [] [])) [(.t 12), (.t 13)]) false [] <|
    .one (some 11) (.mv (.t 14)) false [] <|
    .one (some 15) (.ext (.t 11) 0) false [] <|
    .one (some 16) (.ext (.t 11) 1) false [] <|
    .one (some 8) (.mv (.t 15)) false [] <|
    .one (some 9) (.mv (.t 16)) false [] <|
    .nil)
   (.seq
    (.seq
     (.region <|
      .one (some 17) (.mv (.t 9)) false [] <|
      .one (some 18) (.un .not (.t 17)) false [] <|
      .nil)
     (.cond (.t 18)
      (.seq
       (.region <|
        .one (some 6) (.mv (.c (aint 0))) false [] <|
        .one (some 7) (.mv (.c (abool false))) false [] <|
        .nil)
       .ret)
      .skip))
    (.seq
     (.region <|
      .one (some 19) (.mv (.t 2)) false [] <|
      .one (some 20) (.mv (.t 1)) false [] <|
      .one (some 21) (.i2i .u64 (.t 20)) false [] <|
      .one (some 22) (.bin .add (.t 19) (.t 21)) false [] <|
      .one (some 23) (.bin .mul (.t 22) (.c (.atom (.int .u64 11400714819323198485)))) false [] <|
      .one (some 10) (.mv (.t 23)) false [] <|
      .nil)
     (.seq
      (.region <|
       .one (some 24) (.mv (.t 10)) false [] <|
       .one (some 25) (.mv (.t 10)) false [] <|
       .one (some 26) (.bin .shr (.t 25) (.c (.atom (.int .u64 32)))) false [] <|
       .one (some 27) (.bin .xor (.t 24) (.t 26)) false [] <|
       .one (some 10) (.mv (.t 27)) false [] <|
       .nil)
      (.seq
       (.region <|
        .one (some 28) (.mv (.t 8)) false [] <|
        .one (some 29) (.mv (.t 10)) false [] <|
        .one (some 30) (.mv (.t 8)) false [] <|
        .one (some 31) (.bin .shr (.t 30) (.c (.atom (.int .u64 1)))) false [] <|
        .one (some 32) (.bin .add (.t 31) (.c (aint 1))) false [] <|
        .one (some 33) (.i2i .u64 (.t 32)) false [] <|
        .one (some 34) (.bin .rem (.t 29) (.t 33)) false [] <|
        .one (some 35) (.i2i .i64 (.t 34)) false [] <|
        .one (some 36) (.bin .add (.t 28) (.t 35)) false [] <|
        .one (some 6) (.mv (.t 36)) false [] <|
        .one (some 7) (.mv (.c (abool true))) false [] <|
        .nil)
       .ret)))))),
 [.tmp 6, .tmp 7], 2, .frozen⟩
theorem retry_Spread_c : compFn Try.prog wrs modes 17 = some retry_Spread_A := by kernel_rfl

/-- godwit/godwitref20.Spread -/
def godwitref20_Spread_A : AFun := ⟨
 (.seq
  (.region <|
   .one (some 3) (.box 0 (.t 0)) false [] <|
   .one (some 6) (.mv (.c (aint 0))) false [] <|
   .one (some 7) (.mv (.c (abool false))) false [] <|
   .nil)
  (.seq
   (.region <|
    .one (some 12) (.ld true 3 (.t 3)) false [] <|
    .one (some 13) (.mv (.t 1)) false [] <|
    .one (some 14) (.call 1 (.c (.fn godwitref20_Delay [] [])) [(.t 12), (.t 13)]) false [] <|
    .one (some 11) (.mv (.t 14)) false [] <|
    .one (some 15) (.ext (.t 11) 0) false [] <|
    .one (some 16) (.ext (.t 11) 1) false [] <|
    .one (some 8) (.mv (.t 15)) false [] <|
    .one (some 9) (.mv (.t 16)) false [] <|
    .nil)
   (.seq
    (.seq
     (.region <|
      .one (some 17) (.mv (.t 9)) false [] <|
      .one (some 18) (.un .not (.t 17)) false [] <|
      .nil)
     (.cond (.t 18)
      (.seq
       (.region <|
        .one (some 6) (.mv (.c (aint 0))) false [] <|
        .one (some 7) (.mv (.c (abool false))) false [] <|
        .nil)
       .ret)
      .skip))
    (.seq
     (.region <|
      .one (some 19) (.mv (.t 2)) false [] <|
      .one (some 20) (.mv (.t 1)) false [] <|
      .one (some 21) (.i2i .u64 (.t 20)) false [] <|
      .one (some 22) (.bin .add (.t 19) (.t 21)) false [] <|
      .one (some 23) (.bin .mul (.t 22) (.c (.atom (.int .u64 11400714819323198485)))) false [] <|
      .one (some 10) (.mv (.t 23)) false [] <|
      .nil)
     (.seq
      (.region <|
       .one (some 24) (.mv (.t 10)) false [] <|
       .one (some 25) (.mv (.t 10)) false [] <|
       .one (some 26) (.bin .shr (.t 25) (.c (.atom (.int .u64 32)))) false [] <|
       .one (some 27) (.bin .xor (.t 24) (.t 26)) false [] <|
       .one (some 10) (.mv (.t 27)) false [] <|
       .nil)
      (.seq
       (.region <|
        .one (some 28) (.mv (.t 8)) false [] <|
        .one (some 29) (.mv (.t 10)) false [] <|
        .one (some 30) (.mv (.t 8)) false [] <|
        .one (some 31) (.bin .quo (.t 30) (.c (aint 2))) false [] <|
        .one (some 32) (.bin .add (.t 31) (.c (aint 1))) false [] <|
        .one (some 33) (.i2i .u64 (.t 32)) false [] <|
        .one (some 34) (.bin .rem (.t 29) (.t 33)) false [] <|
        .one (some 35) (.i2i .i64 (.t 34)) false [] <|
        .one (some 36) (.bin .add (.t 28) (.t 35)) false [] <|
        .one (some 6) (.mv (.t 36)) false [] <|
        .one (some 7) (.mv (.c (abool true))) false [] <|
        .nil)
       .ret)))))),
 [.tmp 6, .tmp 7], 2, .frozen⟩
theorem godwitref20_Spread_c : compFn Try.prog wrs modes 18 = some godwitref20_Spread_A := by kernel_rfl

/-- godwit/godwitref20.Total -/
def godwitref20_Total_L0 : ACode :=
 (.seq
  (.seq
   (.region <|
    .one (some 7) (.mv (.t 4)) false [] <|
    .one (some 8) (.bin .lss (.t 7) (.c (aint 100))) false [] <|
    .nil)
   (.cond (.t 8)
    .skip
    (.exit 0)))
  (.seq
   (.block 1
    (.seq
     (.region <|
      .one (some 12) (.ld true 3 (.t 1)) false [] <|
      .one (some 13) (.mv (.t 4)) false [] <|
      .one (some 14) (.call 1 (.c (.fn godwitref20_Delay [] [])) [(.t 12), (.t 13)]) false [] <|
      .one (some 11) (.mv (.t 14)) false [] <|
      .one (some 15) (.ext (.t 11) 0) false [] <|
      .one (some 16) (.ext (.t 11) 1) false [] <|
      .one (some 5) (.mv (.t 15)) false [] <|
      .one (some 6) (.mv (.t 16)) false [] <|
      .nil)
     (.region <|
      .one (some 17) (.mv (.t 3)) false [] <|
      .one (some 18) (.mv (.t 5)) false [] <|
      .one (some 19) (.bin .add (.t 17) (.t 18)) false [] <|
      .one (some 3) (.mv (.t 19)) false [] <|
      .nil)))
   (.region <|
    .one (some 9) (.mv (.t 4)) false [] <|
    .one (some 10) (.bin .add (.t 9) (.c (aint 1))) false [] <|
    .one (some 4) (.mv (.t 10)) false [] <|
    .nil)))
def godwitref20_Total_A : AFun := ⟨
 (.seq
  (.region <|
   .one (some 1) (.box 0 (.t 0)) false [] <|
   .one (some 2) (.mv (.c (aint 0))) false [] <|
   .nil)
  (.seq
   (.region <|
    .one (some 3) (.mv (.c (aint 0))) false [] <|
    .nil)
   (.seq
    (.seq
     (.region <|
      .one (some 4) (.mv (.c (aint 0))) false [] <|
      .nil)
     (.block 0
      (.loop godwitref20_Total_L0)))
    (.seq
     (.region <|
      .one (some 20) (.mv (.t 3)) false [] <|
      .one (some 2) (.mv (.t 20)) false [] <|
      .nil)
     .ret)))),
 [.tmp 2], 2, .frozen⟩
theorem godwitref20_Total_c : compFn Try.prog wrs modes 19 = some godwitref20_Total_A := by kernel_rfl

/-- godwit/godwitref20.By -/
def godwitref20_By_L0 : ACode :=
 (.seq
  (.seq
   (.region <|
    .one (some 9) (.mv (.t 6)) false [] <|
    .one (some 10) (.bin .lss (.t 9) (.c (aint 100))) false [] <|
    .nil)
   (.cond (.t 10)
    .skip
    (.exit 0)))
  (.seq
   (.block 1
    (.seq
     (.region <|
      .one (some 14) (.ld true 3 (.t 2)) false [] <|
      .one (some 15) (.mv (.t 6)) false [] <|
      .one (some 16) (.call 1 (.c (.fn godwitref20_Delay [] [])) [(.t 14), (.t 15)]) false [] <|
      .one (some 13) (.mv (.t 16)) false [] <|
      .one (some 17) (.ext (.t 13) 0) false [] <|
      .one (some 18) (.ext (.t 13) 1) false [] <|
      .one (some 7) (.mv (.t 17)) false [] <|
      .one (some 8) (.mv (.t 18)) false [] <|
      .nil)
     (.seq
      (.region <|
       .one (some 19) (.mv (.t 5)) false [] <|
       .one (some 20) (.mv (.t 7)) false [] <|
       .one (some 21) (.bin .add (.t 19) (.t 20)) false [] <|
       .one (some 5) (.mv (.t 21)) false [] <|
       .nil)
      (.seq
       (.region <|
        .one (some 22) (.mv (.t 8)) false [] <|
        .one (some 23) (.un .not (.t 22)) false [] <|
        .one (some 24) (.mv (.t 23)) false [] <|
        .sc 28 25 28 24 false
          (.one (some 25) (.mv (.t 5)) false [] <|
           .one (some 26) (.mv (.t 1)) false [] <|
           .one (some 27) (.bin .gtr (.t 25) (.t 26)) false [] <|
           .nil)
          (.c (abool true)) (.t 27) <|
        .nil)
       (.cond (.t 28)
        (.seq
         (.region <|
          .one (some 29) (.mv (.t 6)) false [] <|
          .one (some 4) (.mv (.t 29)) false [] <|
          .nil)
         .ret)
        .skip)))))
   (.region <|
    .one (some 11) (.mv (.t 6)) false [] <|
    .one (some 12) (.bin .add (.t 11) (.c (aint 1))) false [] <|
    .one (some 6) (.mv (.t 12)) false [] <|
    .nil)))
def godwitref20_By_A : AFun := ⟨
 (.seq
  (.region <|
   .one (some 2) (.box 0 (.t 0)) false [] <|
   .one (some 4) (.mv (.c (aint 0))) false [] <|
   .nil)
  (.seq
   (.region <|
    .one (some 5) (.mv (.c (aint 0))) false [] <|
    .nil)
   (.seq
    (.seq
     (.region <|
      .one (some 6) (.mv (.c (aint 0))) false [] <|
      .nil)
     (.block 0
      (.loop godwitref20_By_L0)))
    (.seq
     (.region <|
      .one (some 4) (.mv (.c (aint 100))) false [] <|
      .nil)
     .ret)))),
 [.tmp 4], 2, .frozen⟩
theorem godwitref20_By_c : compFn Try.prog wrs modes 20 = some godwitref20_By_A := by kernel_rfl

/-- (godwit/retry.Plan).delays -/
def _retry_Plan__delays_A : AFun := ⟨
 (.seq
  (.region <|
   .one (some 1) (.box 0 (.t 0)) false [] <|
   .one (some 2) (.mv (.c (.atom .nilFunc))) false [] <|
   .nil)
  (.seq
   (.region <|
    .one (some 3) (.mkfn _retry_Plan__delays_1 [] [(.t 1)]) false [] <|
    .one (some 2) (.mv (.t 3)) false [] <|
    .nil)
   .ret)),
 [.tmp 2], 1, .escape⟩
theorem _retry_Plan__delays_c : compFn Try.prog wrs modes 21 = some _retry_Plan__delays_A := by kernel_rfl

/-- (godwit/retry.Plan).delays$1 -/
def _retry_Plan__delays_1_L0 : ACode :=
 (.seq
  (.region <|
   .one (some 13) (.bin .lss (.t 12) (.t 11)) false [] <|
   .nil)
  (.seq
   (.cond (.t 13)
    .skip
    (.exit 0))
   (.seq
    (.block 1
     (.seq
      (.region <|
       .one (some 14) (.mv (.t 12)) false [] <|
       .one (some 4) (.mv (.t 14)) false [] <|
       .nil)
      (.seq
       (.seq
        (.region <|
         .one (some 15) (.mv (.t 0)) false [] <|
         .one (some 16) (.mv (.t 4)) false [] <|
         .one (some 17) (.mv (.t 3)) false [] <|
         .one (some 18) (.call 1 (.t 15) [(.t 16), (.t 17)]) false [] <|
         .one (some 19) (.un .not (.t 18)) false [] <|
         .nil)
        (.cond (.t 19)
         .ret
         .skip))
       (.region <|
        .one (some 20) (.mv (.t 3)) false [] <|
        .one (some 21) (.bin .shl (.t 20) (.c (.atom (.int .u64 1)))) false [] <|
        .one (some 22) (.fa 1 (.t 1)) false [] <|
        .one (some 23) (.ld false 1 (.t 22)) false [] <|
        .one (some 24) (.min [(.t 21), (.t 23)]) false [] <|
        .one (some 3) (.mv (.t 24)) false [] <|
        .nil))))
    (.region <|
     .one (some 25) (.bin .add (.t 12) (.c (aint 1))) false [] <|
     .one (some 12) (.mv (.t 25)) false [] <|
     .nil))))
def _retry_Plan__delays_1_A : AFun := ⟨
 (.seq
  (.seq
   (.region <|
    .one (some 5) (.ld true 3 (.t 1)) false [] <|
    .one (some 6) (.call 0 (.c (.fn retry_Sane [] [])) [(.t 5)]) false [] <|
    .one (some 7) (.un .not (.t 6)) false [] <|
    .nil)
   (.cond (.t 7)
    .ret
    .skip))
  (.seq
   (.region <|
    .one (some 8) (.fa 0 (.t 1)) false [] <|
    .one (some 9) (.ld false 1 (.t 8)) false [] <|
    .one (some 3) (.mv (.t 9)) false [] <|
    .nil)
   (.seq
    (.region <|
     .one (some 10) (.fa 2 (.t 1)) false [] <|
     .one (some 11) (.ld false 1 (.t 10)) false [] <|
     .one (some 12) (.mv (.c (aint 0))) false [] <|
     .nil)
    (.block 0
     (.loop _retry_Plan__delays_1_L0))))),
 [], 2, .frozen⟩
theorem _retry_Plan__delays_1_c : compFn Try.prog wrs modes 22 = some _retry_Plan__delays_1_A := by kernel_rfl

end Go.Proofs.Ytcfbnhdcpmnpaaa.Fn
