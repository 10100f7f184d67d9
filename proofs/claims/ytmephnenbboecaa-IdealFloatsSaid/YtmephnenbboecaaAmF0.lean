/- The functions of the cut, resolved (printed by gen.py). No condition. -/
import Derived.Test.YtmephnenbboecaaAmM
import Derived.Test.YtmephnenbboecaaChecked
namespace Go.Am.Try
open Go.Proofs
set_option maxRecDepth 100000
/-- gosem.cut.init -/
def a2 : AFunc := ⟨0, (.region [⟨(some 0), none, .w (.call 1 [])⟩]), []⟩
theorem comp2 : compFunc Try.prog 2 = some a2 := by kernel_rfl
theorem callable2 : callable Try.prog 2 = true := by kernel_rfl

/-- treadle/treadlelaw18.IdealFloats -/
def a4 : AFunc := ⟨3, (.seq
  (.region [⟨(some 6), none, .p (.mv (.const (.bool false)))⟩])
  (.seq
   (.region [⟨(some 11), none, .p (.mv (.tmp 0))⟩,
      ⟨(some 12), none, .p (.ibin .rem (.tmp 11) (.const (.int .u8 4)))⟩,
      ⟨(some 13), none, .p (.conv .i64 (.tmp 12))⟩,
      ⟨(some 14), none, .p (.ibin .add (.const (.int .i64 15)) (.tmp 13))⟩,
      ⟨(some 7), none, .p (.mv (.tmp 14))⟩])
   (.seq
    (.region [⟨(some 15), none, .p (.mv (.tmp 1))⟩,
       ⟨(some 16), none, .p (.build [.int .i64 0, .int .i64 0, .int .i64 0, .int .i64 0, .int .u64 0, .slice none 0 0] [(0, 1, (.const (.int .i64 1))), (1, 1, (.const (.int .i64 4))), (4, 1, (.tmp 15))])⟩,
       ⟨(some 17), none, .p (.mv (.tmp 2))⟩,
       ⟨(some 18), none, .p (.build [.int .i64 0, .int .i64 0, .int .i64 0, .int .i64 0, .int .u64 0, .slice none 0 0] [(0, 1, (.const (.int .i64 1))), (1, 1, (.const (.int .i64 5))), (4, 1, (.tmp 17))])⟩,
       ⟨(some 19), none, .p (.mv (.tmp 7))⟩,
       ⟨(some 20), none, .p (.build [.int .i64 0, .int .i64 0, .int .i64 0, .int .i64 0, .int .u64 0, .slice none 0 0] [(0, 1, (.tmp 19)), (1, 1, (.const (.int .i64 6))), (2, 1, (.const (.int .i64 4))), (3, 1, (.const (.int .i64 5)))])⟩,
       ⟨(some 21), none, .p (.build [.int .i64 0, .int .i64 0, .int .i64 0, .int .i64 0, .int .u64 0, .slice none 0 0] [(0, 1, (.const (.int .i64 48))), (1, 1, (.const (.int .i64 6)))])⟩,
       ⟨(some 22), none, .p (.build [.int .i64 0, .int .i64 0, .int .i64 0, .int .i64 0, .int .u64 0, .slice none 0 0] [(0, 1, (.const (.int .i64 26))), (1, 1, (.const (.int .i64 7)))])⟩,
       ⟨(some 23), none, .p (.build [.int .i64 0, .int .i64 0, .int .i64 0, .int .i64 0, .int .u64 0, .slice none 0 0] [(0, 1, (.const (.int .i64 30))), (1, 1, (.const (.int .i64 7))), (2, 1, (.const (.int .i64 6))), (3, 1, (.const (.int .i64 1)))])⟩,
       ⟨(some 24), none, .p (.build [.int .i64 0, .int .i64 0, .int .i64 0, .int .i64 0, .int .u64 0, .slice none 0 0] [(0, 1, (.const (.int .i64 29))), (1, 1, (.const (.int .i64 5))), (2, 1, (.const (.int .i64 7))), (3, 1, (.const (.int .i64 1)))])⟩,
       ⟨(some 25), none, .p (.build [.int .i64 0, .int .i64 0, .int .i64 0, .int .i64 0, .int .u64 0, .slice none 0 0] [(0, 1, (.const (.int .i64 48))), (1, 1, (.const (.int .i64 5)))])⟩,
       ⟨(some 26), none, .p (.build [.int .i64 0, .int .i64 0, .int .i64 0, .int .i64 0, .int .u64 0, .slice none 0 0] [(0, 1, (.const (.int .i64 19))), (1, 1, (.const (.int .i64 0))), (2, 1, (.const (.int .i64 5))), (3, 1, (.const (.int .i64 6)))])⟩,
       ⟨(some 27), none, .p (.build [.int .i64 0, .int .i64 0, .int .i64 0, .int .i64 0, .int .u64 0, .slice none 0 0] [(0, 1, (.const (.int .i64 48)))])⟩,
       ⟨(some 28), none, .p (.build [.int .i64 0, .int .i64 0, .int .i64 0, .int .i64 0, .int .u64 0, .slice none 0 0] [(0, 1, (.const (.int .i64 22))), (1, 1, (.const (.int .i64 1))), (2, 1, (.const (.int .i64 4)))])⟩,
       ⟨(some 29), none, .p (.build [.int .i64 0, .int .i64 0, .int .i64 0, .int .i64 0, .int .u64 0, .slice none 0 0] [(0, 1, (.const (.int .i64 48))), (1, 1, (.const (.int .i64 1)))])⟩,
       ⟨(some 30), none, .p (.build [.int .i64 0, .int .i64 0, .int .i64 0, .int .i64 0, .int .u64 0, .slice none 0 0] [(0, 1, (.const (.int .i64 36)))])⟩,
       ⟨(some 31), none, .w (.bslice 38 13 [.int .i64 0, .int .i64 0, .int .i64 0, .int .i64 0, .int .u64 0, .slice none 0 0] [(0, 6, (.tmp 16)), (6, 6, (.tmp 18)), (12, 6, (.tmp 20)), (18, 6, (.tmp 21)), (24, 6, (.tmp 22)), (30, 6, (.tmp 23)), (36, 6, (.tmp 24)), (42, 6, (.tmp 25)), (48, 6, (.tmp 26)), (54, 6, (.tmp 27)), (60, 6, (.tmp 28)), (66, 6, (.tmp 29)), (72, 6, (.tmp 30))])⟩,
       ⟨(some 32), none, .w (.call 8 [(.tmp 31)])⟩,
       ⟨(some 8), none, .w (.alloc 33 [.slice none 0 0, .slice none 0 0, .slice none 0 0])⟩,
       ⟨none, none, .w (.stN 3 (.tmp 8) (.tmp 32))⟩])
    (.seq
     (.region [⟨(some 33), none, .p (.mv (.tmp 1))⟩,
        ⟨(some 34), none, .p (.mv (.tmp 2))⟩,
        ⟨(some 35), none, .w (.call 14 [(.tmp 33), (.tmp 34)])⟩,
        ⟨(some 9), none, .p (.mv (.tmp 35))⟩])
     (.seq
      (.seq
       (.region [⟨(some 36), none, .p (.mv (.tmp 7))⟩])
       (.block 0
        (.seq
         (.region [⟨(some 38), none, .p (.ibin .eql (.tmp 36) (.const (.int .i64 16)))⟩,
            ⟨(some 37), none, .p (.mv (.tmp 38))⟩])
         (.cond (.tmp 37)
          (.region [⟨(some 39), none, .p (.mv (.tmp 1))⟩,
             ⟨(some 40), none, .p (.mv (.tmp 2))⟩,
             ⟨(some 41), none, .w (.call 15 [(.tmp 39), (.tmp 40)])⟩,
             ⟨(some 9), none, .p (.mv (.tmp 41))⟩])
          (.seq
           (.region [⟨(some 43), none, .p (.ibin .eql (.tmp 36) (.const (.int .i64 17)))⟩,
              ⟨(some 42), none, .p (.mv (.tmp 43))⟩])
           (.cond (.tmp 42)
            (.region [⟨(some 44), none, .p (.mv (.tmp 1))⟩,
               ⟨(some 45), none, .p (.mv (.tmp 2))⟩,
               ⟨(some 46), none, .w (.call 16 [(.tmp 44), (.tmp 45)])⟩,
               ⟨(some 9), none, .p (.mv (.tmp 46))⟩])
            (.seq
             (.region [⟨(some 48), none, .p (.ibin .eql (.tmp 36) (.const (.int .i64 18)))⟩,
                ⟨(some 47), none, .p (.mv (.tmp 48))⟩])
             (.cond (.tmp 47)
              (.region [⟨(some 49), none, .p (.mv (.tmp 1))⟩,
                 ⟨(some 50), none, .p (.mv (.tmp 2))⟩,
                 ⟨(some 51), none, .w (.call 17 [(.tmp 49), (.tmp 50)])⟩,
                 ⟨(some 9), none, .p (.mv (.tmp 51))⟩])
              .skip))))))))
      (.seq
       (.region [⟨(some 10), none, .p (.mv (.const (.int .u64 1)))⟩])
       (.seq
        (.seq
         (.region [⟨(some 52), none, .p (.mv (.tmp 9))⟩,
            ⟨(some 53), none, .w (.call 18 [(.tmp 52)])⟩,
            ⟨(some 54), none, .p (.ibin .eql (.tmp 53) (.const (.int .i64 4)))⟩])
         (.cond (.tmp 54)
          (.region [⟨(some 10), none, .p (.mv (.const (.int .u64 0)))⟩])
          .skip))
        (.seq
         (.region [⟨(some 55), none, .w (.call 9 [])⟩,
            ⟨(some 56), none, .p (.mv (.tmp 55))⟩,
            ⟨(some 57), (some (56, true)), .rN 3 (.tmp 8)⟩,
            ⟨(some 58), (some (56, true)), .w (.call 20 [(.tmp 57), (.const (.int .i64 20))])⟩,
            ⟨(some 59), (some (56, true)), .p (.mv (.tmp 9))⟩,
            ⟨(some 60), (some (56, true)), .p (.build [.int .i64 0, .int .i64 0, .int .u64 0] [(0, 1, (.const (.int .i64 2))), (2, 1, (.tmp 59))])⟩,
            ⟨(some 61), (some (56, true)), .p (.mv (.tmp 9))⟩,
            ⟨(some 62), (some (56, true)), .p (.build [.int .i64 0, .int .i64 0, .int .u64 0] [(0, 1, (.const (.int .i64 2))), (2, 1, (.tmp 61))])⟩,
            ⟨(some 63), (some (56, true)), .p (.mv (.tmp 10))⟩,
            ⟨(some 64), (some (56, true)), .p (.build [.int .i64 0, .int .i64 0, .int .u64 0] [(0, 1, (.const (.int .i64 1))), (2, 1, (.tmp 63))])⟩,
            ⟨(some 65), (some (56, true)), .p (.mv (.tmp 1))⟩,
            ⟨(some 66), (some (56, true)), .w (.call 21 [(.tmp 65)])⟩,
            ⟨(some 67), (some (56, true)), .p (.conv .u64 (.tmp 66))⟩,
            ⟨(some 68), (some (56, true)), .p (.build [.int .i64 0, .int .i64 0, .int .u64 0] [(0, 1, (.const (.int .i64 1))), (2, 1, (.tmp 67))])⟩,
            ⟨(some 69), (some (56, true)), .p (.build [.int .i64 0, .int .i64 0, .int .u64 0] [(0, 1, (.const (.int .i64 3)))])⟩,
            ⟨(some 70), (some (56, true)), .w (.bslice 50 5 [.int .i64 0, .int .i64 0, .int .u64 0] [(0, 3, (.tmp 60)), (3, 3, (.tmp 62)), (6, 3, (.tmp 64)), (9, 3, (.tmp 68)), (12, 3, (.tmp 69))])⟩,
            ⟨(some 71), (some (56, true)), .w (.call 19 [(.tmp 58), (.tmp 70)])⟩,
            ⟨(some 72), none, .p (.pick (.tmp 56) (.tmp 71) (.const (.bool false)))⟩,
            ⟨(some 6), none, .p (.mv (.tmp 72))⟩])
         .ret)))))))), [.tmp 6]⟩
theorem comp4 : compFunc Try.prog 4 = some a4 := by kernel_rfl
theorem callable4 : callable Try.prog 4 = true := by kernel_rfl

/-- treadle/treadlelaw18.IdealReach -/
def a6 : AFunc := ⟨1, (.seq
  (.region [⟨(some 2), none, .p (.mv (.const (.bool false)))⟩])
  (.seq
   (.region [⟨(some 11), none, .p (.mv (.tmp 0))⟩,
      ⟨(some 12), none, .p (.ibin .rem (.tmp 11) (.const (.int .u8 30)))⟩,
      ⟨(some 13), none, .p (.conv .i64 (.tmp 12))⟩,
      ⟨(some 3), none, .p (.mv (.tmp 13))⟩])
   (.seq
    (.region [⟨(some 14), none, .w (.bslice 59 3 [.int .i64 0] [(0, 1, (.const (.int .i64 16))), (1, 1, (.const (.int .i64 0))), (2, 1, (.const (.int .i64 0)))])⟩,
       ⟨(some 15), none, .p (.build [.bool false, .slice none 0 0] [(1, 1, (.tmp 14))])⟩,
       ⟨(some 4), none, .w (.alloc 61 [.bool false, .slice none 0 0])⟩,
       ⟨none, none, .w (.stN 2 (.tmp 4) (.tmp 15))⟩])
    (.seq
     (.region [⟨(some 5), none, .p (.mv (.const (.slice none 0 0)))⟩])
     (.seq
      (.seq
       (.region [⟨(some 16), none, .p (.mv (.tmp 3))⟩,
          ⟨(some 17), none, .p (.mv (.const (.int .i64 0)))⟩])
       (.block 0
        (.loop
         (.seq
          (.region [⟨(some 18), none, .p (.ibin .lss (.tmp 17) (.tmp 16))⟩])
          (.seq
           (.cond (.tmp 18)
            .skip
            (.exit 0))
           (.seq
            (.block 1
             (.region [⟨(some 19), none, .p (.mv (.tmp 5))⟩,
                ⟨(some 20), none, .p (.build [.int .i64 0, .int .i64 0, .int .i64 0, .int .i64 0, .int .u64 0, .slice none 0 0] [(0, 1, (.const (.int .i64 26))), (1, 1, (.const (.int .i64 1)))])⟩,
                ⟨(some 21), none, .p (.build [.int .i64 0, .int .i64 0, .int .i64 0, .int .i64 0, .int .u64 0, .slice none 0 0] [(0, 1, (.const (.int .i64 30))), (1, 1, (.const (.int .i64 1))), (2, 1, (.const (.int .i64 0)))])⟩,
                ⟨(some 22), none, .p (.build [.int .i64 0, .int .i64 0, .int .i64 0, .int .i64 0, .int .u64 0, .slice none 0 0] [(0, 1, (.const (.int .i64 2))), (1, 1, (.const (.int .i64 0))), (2, 1, (.const (.int .i64 1)))])⟩,
                ⟨(some 23), none, .w (.bslice 38 3 [.int .i64 0, .int .i64 0, .int .i64 0, .int .i64 0, .int .u64 0, .slice none 0 0] [(0, 6, (.tmp 20)), (6, 6, (.tmp 21)), (12, 6, (.tmp 22))])⟩,
                ⟨(some 24), none, .w (.app 38 64 [.int .i64 0, .int .i64 0, .int .i64 0, .int .i64 0, .int .u64 0, .slice none 0 0] (.tmp 19) (.tmp 23))⟩,
                ⟨(some 5), none, .p (.mv (.tmp 24))⟩]))
            (.region [⟨(some 25), none, .p (.ibin .add (.tmp 17) (.const (.int .i64 1)))⟩,
               ⟨(some 17), none, .p (.mv (.tmp 25))⟩])))))))
      (.seq
       (.region [⟨(some 26), none, .p (.mv (.tmp 5))⟩,
          ⟨(some 27), none, .p (.build [.int .i64 0, .int .i64 0, .int .i64 0, .int .i64 0, .int .u64 0, .slice none 0 0] [(0, 1, (.const (.int .i64 2))), (1, 1, (.const (.int .i64 1))), (2, 1, (.const (.int .i64 2)))])⟩,
          ⟨(some 28), none, .p (.build [.int .i64 0, .int .i64 0, .int .i64 0, .int .i64 0, .int .u64 0, .slice none 0 0] [(0, 1, (.const (.int .i64 34))), (2, 1, (.const (.int .i64 0)))])⟩,
          ⟨(some 29), none, .p (.build [.int .i64 0, .int .i64 0, .int .i64 0, .int .i64 0, .int .u64 0, .slice none 0 0] [(0, 1, (.const (.int .i64 2))), (1, 1, (.const (.int .i64 0))), (2, 1, (.const (.int .i64 2)))])⟩,
          ⟨(some 30), none, .p (.build [.int .i64 0, .int .i64 0, .int .i64 0, .int .i64 0, .int .u64 0, .slice none 0 0] [(0, 1, (.const (.int .i64 34))), (2, 1, (.const (.int .i64 2)))])⟩,
          ⟨(some 31), none, .p (.build [.int .i64 0, .int .i64 0, .int .i64 0, .int .i64 0, .int .u64 0, .slice none 0 0] [(0, 1, (.const (.int .i64 36)))])⟩,
          ⟨(some 32), none, .w (.bslice 38 5 [.int .i64 0, .int .i64 0, .int .i64 0, .int .i64 0, .int .u64 0, .slice none 0 0] [(0, 6, (.tmp 27)), (6, 6, (.tmp 28)), (12, 6, (.tmp 29)), (18, 6, (.tmp 30)), (24, 6, (.tmp 31))])⟩,
          ⟨(some 33), none, .w (.app 38 64 [.int .i64 0, .int .i64 0, .int .i64 0, .int .i64 0, .int .u64 0, .slice none 0 0] (.tmp 26) (.tmp 32))⟩,
          ⟨(some 5), none, .p (.mv (.tmp 33))⟩])
       (.seq
        (.region [⟨(some 34), none, .rN 2 (.tmp 4)⟩,
           ⟨(some 35), none, .w (.bslice 61 1 [.bool false, .slice none 0 0] [(0, 2, (.tmp 34))])⟩,
           ⟨(some 36), none, .w (.bslice 59 1 [.int .i64 0] [(0, 1, (.const (.int .i64 16)))])⟩,
           ⟨(some 37), none, .w (.bslice 59 3 [.int .i64 0] [(0, 1, (.const (.int .i64 16))), (1, 1, (.const (.int .i64 16))), (2, 1, (.const (.int .i64 16)))])⟩,
           ⟨(some 38), none, .p (.mv (.tmp 5))⟩,
           ⟨(some 39), none, .p (.build [.int .i64 0, .slice none 0 0, .slice none 0 0, .slice none 0 0] [(1, 1, (.tmp 37)), (3, 1, (.tmp 38))])⟩,
           ⟨(some 40), none, .w (.bslice 64 1 [.int .i64 0, .slice none 0 0, .slice none 0 0, .slice none 0 0] [(0, 4, (.tmp 39))])⟩,
           ⟨(some 41), none, .p (.build [.slice none 0 0, .slice none 0 0, .slice none 0 0] [(0, 1, (.tmp 35)), (1, 1, (.tmp 36)), (2, 1, (.tmp 40))])⟩,
           ⟨(some 6), none, .w (.alloc 33 [.slice none 0 0, .slice none 0 0, .slice none 0 0])⟩,
           ⟨none, none, .w (.stN 3 (.tmp 6) (.tmp 41))⟩])
        (.seq
         (.region [⟨(some 43), none, .rN 3 (.tmp 6)⟩,
            ⟨(some 44), none, .w (.call 7 [(.tmp 43)])⟩,
            ⟨(some 42), none, .p (.mv (.tmp 44))⟩,
            ⟨(some 45), none, .p (.extract 0 (.tmp 42))⟩,
            ⟨(some 46), none, .p (.extract 1 (.tmp 42))⟩,
            ⟨(some 8), none, .w (.alloc 26 [.int .i64 0, .int .i64 0, .int .i64 0])⟩,
            ⟨(some 7), none, .p (.mv (.tmp 45))⟩,
            ⟨none, none, .w (.stN 3 (.tmp 8) (.tmp 46))⟩])
         (.seq
          (.seq
           (.region [⟨(some 47), none, .w (.call 9 [])⟩,
              ⟨(some 48), none, .p (.not (.tmp 47))⟩,
              ⟨(some 49), none, .p (.mv (.tmp 48))⟩,
              ⟨(some 50), (some (49, false)), .p (.mv (.tmp 7))⟩,
              ⟨(some 51), (some (49, false)), .p (.eqp false (.tmp 50) (.const (.pointer none)))⟩,
              ⟨(some 52), none, .p (.pick (.tmp 49) (.const (.bool true)) (.tmp 51))⟩,
              ⟨(some 53), none, .p (.mv (.tmp 52))⟩,
              ⟨(some 54), (some (53, false)), .p (.fieldA 0 (.tmp 8))⟩,
              ⟨(some 55), (some (53, false)), .r1 (.tmp 54)⟩,
              ⟨(some 56), (some (53, false)), .p (.ibin .neq (.tmp 55) (.const (.int .i64 0)))⟩,
              ⟨(some 57), none, .p (.pick (.tmp 53) (.const (.bool true)) (.tmp 56))⟩])
           (.cond (.tmp 57)
            (.seq
             (.region [⟨(some 2), none, .p (.mv (.const (.bool false)))⟩])
             .ret)
            .skip))
          (.seq
           (.seq
            (.region [⟨(some 58), none, .p (.mv (.tmp 3))⟩,
               ⟨(some 59), none, .p (.ibin .mul (.const (.int .i64 3)) (.tmp 58))⟩,
               ⟨(some 60), none, .p (.ibin .add (.tmp 59) (.const (.int .i64 3)))⟩,
               ⟨(some 61), none, .p (.mv (.const (.int .i64 0)))⟩])
            (.block 2
             (.loop
              (.seq
               (.region [⟨(some 62), none, .p (.ibin .lss (.tmp 61) (.tmp 60))⟩])
               (.seq
                (.cond (.tmp 62)
                 .skip
                 (.exit 2))
                (.seq
                 (.block 3
                  (.seq
                   (.region [⟨(some 63), none, .p (.mv (.tmp 7))⟩,
                      ⟨(some 64), none, .w (.call 10 [(.tmp 63), (.const (.int .i64 0)), (.const (.int .u64 0))])⟩,
                      ⟨(some 65), none, .p (.ibin .neq (.tmp 64) (.const (.int .i64 0)))⟩])
                   (.cond (.tmp 65)
                    (.seq
                     (.region [⟨(some 2), none, .p (.mv (.const (.bool false)))⟩])
                     .ret)
                    .skip)))
                 (.region [⟨(some 66), none, .p (.ibin .add (.tmp 61) (.const (.int .i64 1)))⟩,
                    ⟨(some 61), none, .p (.mv (.tmp 66))⟩])))))))
           (.seq
            (.region [⟨(some 68), none, .p (.mv (.tmp 7))⟩,
               ⟨(some 69), none, .w (.call 24 [(.tmp 68)])⟩,
               ⟨(some 67), none, .p (.mv (.tmp 69))⟩,
               ⟨(some 70), none, .p (.extract 0 (.tmp 67))⟩,
               ⟨(some 71), none, .p (.extract 1 (.tmp 67))⟩,
               ⟨(some 9), none, .p (.mv (.tmp 70))⟩,
               ⟨(some 10), none, .p (.mv (.tmp 71))⟩])
            (.seq
             (.seq
              (.region [⟨(some 72), none, .p (.mv (.tmp 9))⟩,
                 ⟨(some 73), none, .p (.mv (.tmp 3))⟩,
                 ⟨(some 74), none, .p (.ibin .neq (.tmp 72) (.tmp 73))⟩,
                 ⟨(some 75), none, .p (.mv (.tmp 74))⟩,
                 ⟨(some 76), (some (75, false)), .p (.mv (.tmp 10))⟩,
                 ⟨(some 77), (some (75, false)), .p (.mv (.tmp 3))⟩,
                 ⟨(some 78), (some (75, false)), .p (.ibin .mul (.const (.int .i64 3)) (.tmp 77))⟩,
                 ⟨(some 79), (some (75, false)), .p (.conv .u64 (.tmp 78))⟩,
                 ⟨(some 80), (some (75, false)), .p (.ibin .neq (.tmp 76) (.tmp 79))⟩,
                 ⟨(some 81), none, .p (.pick (.tmp 75) (.const (.bool true)) (.tmp 80))⟩,
                 ⟨(some 82), none, .p (.mv (.tmp 81))⟩,
                 ⟨(some 83), (some (82, false)), .p (.mv (.tmp 7))⟩,
                 ⟨(some 84), (some (82, false)), .w (.call 10 [(.tmp 83), (.const (.int .i64 0)), (.const (.int .u64 0))])⟩,
                 ⟨(some 85), (some (82, false)), .p (.ibin .neq (.tmp 84) (.const (.int .i64 0)))⟩,
                 ⟨(some 86), none, .p (.pick (.tmp 82) (.const (.bool true)) (.tmp 85))⟩])
              (.cond (.tmp 86)
               (.seq
                (.region [⟨(some 2), none, .p (.mv (.const (.bool false)))⟩])
                .ret)
               .skip))
             (.seq
              (.region [⟨(some 88), none, .p (.mv (.tmp 7))⟩,
                 ⟨(some 89), none, .w (.call 24 [(.tmp 88)])⟩,
                 ⟨(some 87), none, .p (.mv (.tmp 89))⟩,
                 ⟨(some 90), none, .p (.extract 0 (.tmp 87))⟩,
                 ⟨(some 91), none, .p (.extract 1 (.tmp 87))⟩,
                 ⟨(some 9), none, .p (.mv (.tmp 90))⟩,
                 ⟨(some 10), none, .p (.mv (.tmp 91))⟩])
              (.seq
               (.region [⟨(some 92), none, .p (.mv (.tmp 9))⟩,
                  ⟨(some 93), none, .p (.ibin .eql (.tmp 92) (.const (.int .i64 0)))⟩,
                  ⟨(some 94), none, .p (.mv (.tmp 93))⟩,
                  ⟨(some 95), (some (94, true)), .p (.mv (.tmp 10))⟩,
                  ⟨(some 96), (some (94, true)), .p (.ibin .eql (.tmp 95) (.const (.int .u64 0)))⟩,
                  ⟨(some 97), none, .p (.pick (.tmp 94) (.tmp 96) (.const (.bool false)))⟩,
                  ⟨(some 2), none, .p (.mv (.tmp 97))⟩])
               .ret)))))))))))))), [.tmp 2]⟩
theorem comp6 : compFunc Try.prog 6 = some a6 := by kernel_rfl
theorem callable6 : callable Try.prog 6 = true := by kernel_rfl

/-- treadle/treadlelaw18.one -/
def a8 : AFunc := ⟨1, (.seq
  (.region [⟨(some 2), none, .w (.alloc 33 [.slice none 0 0, .slice none 0 0, .slice none 0 0])⟩])
  (.seq
   (.region [⟨(some 7), none, .w (.bslice 59 10 [.int .i64 0] [(0, 1, (.const (.int .i64 0))), (1, 1, (.const (.int .i64 0))), (2, 1, (.const (.int .i64 0))), (3, 1, (.const (.int .i64 0))), (4, 1, (.const (.int .i64 1))), (5, 1, (.const (.int .i64 1))), (6, 1, (.const (.int .i64 1))), (7, 1, (.const (.int .i64 16))), (8, 1, (.const (.int .i64 17))), (9, 1, (.const (.int .i64 64)))])⟩,
      ⟨(some 3), none, .p (.mv (.tmp 7))⟩])
   (.seq
    (.region [⟨(some 8), none, .w (.bslice 59 1 [.int .i64 0] [(0, 1, (.const (.int .i64 0)))])⟩,
       ⟨(some 9), none, .p (.build [.int .i64 0, .int .i64 0, .int .i64 0, .int .i64 0, .int .u64 0, .slice none 0 0] [(0, 1, (.const (.int .i64 48)))])⟩,
       ⟨(some 10), none, .p (.build [.int .i64 0, .int .i64 0, .int .i64 0, .int .i64 0, .int .u64 0, .slice none 0 0] [(0, 1, (.const (.int .i64 36)))])⟩,
       ⟨(some 11), none, .w (.bslice 38 2 [.int .i64 0, .int .i64 0, .int .i64 0, .int .i64 0, .int .u64 0, .slice none 0 0] [(0, 6, (.tmp 9)), (6, 6, (.tmp 10))])⟩,
       ⟨(some 12), none, .p (.build [.int .i64 0, .slice none 0 0, .slice none 0 0, .slice none 0 0] [(0, 1, (.const (.int .i64 1))), (1, 1, (.tmp 8)), (3, 1, (.tmp 11))])⟩,
       ⟨(some 4), none, .w (.alloc 64 [.int .i64 0, .slice none 0 0, .slice none 0 0, .slice none 0 0])⟩,
       ⟨none, none, .w (.stN 4 (.tmp 4) (.tmp 12))⟩])
    (.seq
     (.region [⟨(some 13), none, .w (.bslice 59 3 [.int .i64 0] [(0, 1, (.const (.int .i64 0))), (1, 1, (.const (.int .i64 0))), (2, 1, (.const (.int .i64 0)))])⟩,
        ⟨(some 14), none, .p (.build [.int .i64 0, .int .i64 0, .int .i64 0, .int .i64 0, .int .u64 0, .slice none 0 0] [(0, 1, (.const (.int .i64 40))), (1, 1, (.const (.int .i64 1))), (2, 1, (.const (.int .i64 2)))])⟩,
        ⟨(some 15), none, .p (.build [.int .i64 0, .int .i64 0, .int .i64 0, .int .i64 0, .int .u64 0, .slice none 0 0] [(0, 1, (.const (.int .i64 48))), (1, 1, (.const (.int .i64 1)))])⟩,
        ⟨(some 16), none, .p (.build [.int .i64 0, .int .i64 0, .int .i64 0, .int .i64 0, .int .u64 0, .slice none 0 0] [(0, 1, (.const (.int .i64 48))), (1, 1, (.const (.int .i64 2)))])⟩,
        ⟨(some 17), none, .p (.build [.int .i64 0, .int .i64 0, .int .i64 0, .int .i64 0, .int .u64 0, .slice none 0 0] [(0, 1, (.const (.int .i64 36)))])⟩,
        ⟨(some 18), none, .w (.bslice 38 4 [.int .i64 0, .int .i64 0, .int .i64 0, .int .i64 0, .int .u64 0, .slice none 0 0] [(0, 6, (.tmp 14)), (6, 6, (.tmp 15)), (12, 6, (.tmp 16)), (18, 6, (.tmp 17))])⟩,
        ⟨(some 19), none, .p (.build [.int .i64 0, .slice none 0 0, .slice none 0 0, .slice none 0 0] [(0, 1, (.const (.int .i64 1))), (1, 1, (.tmp 13)), (3, 1, (.tmp 18))])⟩,
        ⟨(some 5), none, .w (.alloc 64 [.int .i64 0, .slice none 0 0, .slice none 0 0, .slice none 0 0])⟩,
        ⟨none, none, .w (.stN 4 (.tmp 5) (.tmp 19))⟩])
     (.seq
      (.region [⟨(some 20), none, .w (.bslice 59 2 [.int .i64 0] [(0, 1, (.const (.int .i64 0))), (1, 1, (.const (.int .i64 1)))])⟩,
         ⟨(some 21), none, .p (.build [.bool false, .slice none 0 0] [(1, 1, (.tmp 20))])⟩,
         ⟨(some 22), none, .w (.bslice 59 1 [.int .i64 0] [(0, 1, (.const (.int .i64 0)))])⟩,
         ⟨(some 23), none, .p (.build [.bool false, .slice none 0 0] [(0, 1, (.const (.bool true))), (1, 1, (.tmp 22))])⟩,
         ⟨(some 24), none, .w (.bslice 61 2 [.bool false, .slice none 0 0] [(0, 2, (.tmp 21)), (2, 2, (.tmp 23))])⟩,
         ⟨(some 6), none, .p (.mv (.tmp 24))⟩])
      (.seq
       (.region [⟨(some 25), none, .p (.mv (.tmp 6))⟩,
          ⟨(some 26), none, .p (.mv (.tmp 3))⟩,
          ⟨(some 27), none, .p (.mv (.tmp 0))⟩,
          ⟨(some 28), none, .p (.build [.int .i64 0, .slice none 0 0, .slice none 0 0, .slice none 0 0] [(1, 1, (.tmp 26)), (3, 1, (.tmp 27))])⟩,
          ⟨(some 29), none, .rN 4 (.tmp 4)⟩,
          ⟨(some 30), none, .rN 4 (.tmp 5)⟩,
          ⟨(some 31), none, .w (.bslice 64 3 [.int .i64 0, .slice none 0 0, .slice none 0 0, .slice none 0 0] [(0, 4, (.tmp 28)), (4, 4, (.tmp 29)), (8, 4, (.tmp 30))])⟩,
          ⟨(some 32), none, .p (.build [.slice none 0 0, .slice none 0 0, .slice none 0 0] [(0, 1, (.tmp 25)), (2, 1, (.tmp 31))])⟩,
          ⟨none, none, .w (.stN 3 (.tmp 2) (.tmp 32))⟩])
       .ret)))))), [.cN 3 2]⟩
theorem comp8 : compFunc Try.prog 8 = some a8 := by kernel_rfl
theorem callable8 : callable Try.prog 8 = true := by kernel_rfl

/-- (*treadle/ideal.Ideal).Step -/
def a10 : AFunc := ⟨3, (.seq
  (.region [⟨(some 6), none, .p (.mv (.const (.int .i64 0)))⟩])
  (.seq
   (.block 0
    (.seq
     (.region [⟨(some 11), none, .p (.mv (.tmp 0))⟩,
        ⟨(some 12), none, .p (.eqp false (.tmp 11) (.const (.pointer none)))⟩,
        ⟨(some 10), none, .p (.mv (.tmp 12))⟩])
     (.cond (.tmp 10)
      (.seq
       (.region [⟨(some 6), none, .p (.mv (.const (.int .i64 5)))⟩])
       .ret)
      (.seq
       (.region [⟨(some 14), none, .p (.mv (.tmp 1))⟩,
          ⟨(some 15), none, .p (.ibin .lss (.tmp 14) (.const (.int .i64 0)))⟩,
          ⟨(some 16), none, .p (.mv (.tmp 15))⟩,
          ⟨(some 17), (some (16, false)), .p (.mv (.tmp 1))⟩,
          ⟨(some 18), (some (16, false)), .p (.mv (.tmp 0))⟩,
          ⟨(some 19), (some (16, false)), .p (.nilck (.tmp 18))⟩,
          ⟨(some 20), (some (16, false)), .p (.fieldA 5 (.tmp 19))⟩,
          ⟨(some 21), (some (16, false)), .r1 (.tmp 20)⟩,
          ⟨(some 22), (some (16, false)), .p (.len false (.tmp 21))⟩,
          ⟨(some 23), (some (16, false)), .p (.ibin .geq (.tmp 17) (.tmp 22))⟩,
          ⟨(some 24), none, .p (.pick (.tmp 16) (.const (.bool true)) (.tmp 23))⟩,
          ⟨(some 13), none, .p (.mv (.tmp 24))⟩])
       (.cond (.tmp 13)
        (.seq
         (.region [⟨(some 6), none, .p (.mv (.const (.int .i64 4)))⟩])
         .ret)
        (.seq
         (.region [⟨(some 26), none, .p (.mv (.tmp 0))⟩,
            ⟨(some 27), none, .p (.nilck (.tmp 26))⟩,
            ⟨(some 28), none, .p (.fieldA 8 (.tmp 27))⟩,
            ⟨(some 29), none, .r1 (.tmp 28)⟩,
            ⟨(some 30), none, .p (.mv (.tmp 29))⟩,
            ⟨(some 31), (some (30, false)), .p (.mv (.tmp 0))⟩,
            ⟨(some 32), (some (30, false)), .p (.nilck (.tmp 31))⟩,
            ⟨(some 33), (some (30, false)), .p (.fieldA 5 (.tmp 32))⟩,
            ⟨(some 34), (some (30, false)), .r1 (.tmp 33)⟩,
            ⟨(some 35), (some (30, false)), .p (.mv (.tmp 1))⟩,
            ⟨(some 36), (some (30, false)), .p (.idxSl 1 (.tmp 34) (.tmp 35))⟩,
            ⟨(some 37), (some (30, false)), .r1 (.tmp 36)⟩,
            ⟨(some 38), (some (30, false)), .p (.nilck (.tmp 37))⟩,
            ⟨(some 39), (some (30, false)), .p (.fieldA 0 (.tmp 38))⟩,
            ⟨(some 40), (some (30, false)), .r1 (.tmp 39)⟩,
            ⟨(some 41), (some (30, false)), .p (.ibin .neq (.tmp 40) (.const (.int .i64 1)))⟩,
            ⟨(some 42), none, .p (.pick (.tmp 30) (.const (.bool true)) (.tmp 41))⟩,
            ⟨(some 25), none, .p (.mv (.tmp 42))⟩])
         (.cond (.tmp 25)
          (.seq
           (.region [⟨(some 6), none, .p (.mv (.const (.int .i64 5)))⟩])
           .ret)
          .skip)))))))
   (.seq
    (.region [⟨(some 43), none, .p (.mv (.tmp 0))⟩,
       ⟨(some 44), none, .p (.mv (.tmp 1))⟩,
       ⟨(some 45), none, .p (.nilck (.tmp 43))⟩,
       ⟨(some 46), none, .p (.fieldA 9 (.tmp 45))⟩,
       ⟨none, none, .w (.st1 (.tmp 46) (.tmp 44))⟩])
    (.seq
     (.region [⟨(some 47), none, .p (.mv (.tmp 0))⟩,
        ⟨(some 48), none, .p (.nilck (.tmp 47))⟩,
        ⟨(some 49), none, .p (.fieldA 5 (.tmp 48))⟩,
        ⟨(some 50), none, .r1 (.tmp 49)⟩,
        ⟨(some 51), none, .p (.mv (.tmp 1))⟩,
        ⟨(some 52), none, .p (.idxSl 1 (.tmp 50) (.tmp 51))⟩,
        ⟨(some 53), none, .r1 (.tmp 52)⟩,
        ⟨(some 7), none, .p (.mv (.tmp 53))⟩])
     (.seq
      (.seq
       (.region [⟨(some 54), none, .p (.mv (.tmp 7))⟩,
          ⟨(some 55), none, .p (.nilck (.tmp 54))⟩,
          ⟨(some 56), none, .p (.fieldA 7 (.tmp 55))⟩,
          ⟨(some 57), none, .r1 (.tmp 56)⟩])
       (.cond (.tmp 57)
        (.seq
         (.region [⟨(some 58), none, .p (.mv (.tmp 7))⟩,
            ⟨(some 59), none, .p (.nilck (.tmp 58))⟩,
            ⟨(some 60), none, .p (.fieldA 7 (.tmp 59))⟩,
            ⟨none, none, .w (.st1 (.tmp 60) (.const (.bool false)))⟩])
         (.region [⟨(some 61), none, .p (.mv (.tmp 0))⟩,
            ⟨(some 62), none, .w (.call 28 [(.tmp 61), (.const (.int .i64 (-4)))])⟩]))
        (.seq
         (.region [⟨(some 63), none, .p (.mv (.tmp 7))⟩,
            ⟨(some 64), none, .w (.call 29 [(.tmp 63)])⟩,
            ⟨(some 8), none, .p (.mv (.tmp 64))⟩])
         (.seq
          (.draw [⟨0, ⟨(some 65), none, .p (.mv (.tmp 0))⟩, []⟩,
             ⟨1, ⟨(some 66), none, .p (.nilck (.tmp 65))⟩, []⟩,
             ⟨2, ⟨(some 67), none, .p (.fieldA 0 (.tmp 66))⟩, []⟩,
             ⟨3, ⟨(some 68), none, .p (.fieldA 2 (.tmp 67))⟩, []⟩,
             ⟨4, ⟨(some 69), none, .r1 (.tmp 68)⟩, []⟩,
             ⟨5, ⟨(some 70), none, .p (.mv (.tmp 8))⟩, []⟩,
             ⟨6, ⟨(some 71), none, .p (.nilck (.tmp 70))⟩, []⟩,
             ⟨7, ⟨(some 72), none, .p (.fieldA 0 (.tmp 71))⟩, []⟩,
             ⟨8, ⟨(some 73), none, .r1 (.tmp 72)⟩, []⟩,
             ⟨9, ⟨(some 74), none, .p (.idxSl 4 (.tmp 69) (.tmp 73))⟩, []⟩,
             ⟨10, ⟨(some 75), none, .p (.fieldA 3 (.tmp 74))⟩, []⟩,
             ⟨11, ⟨(some 76), none, .r1 (.tmp 75)⟩, []⟩,
             ⟨12, ⟨(some 77), none, .p (.mv (.tmp 8))⟩, []⟩,
             ⟨13, ⟨(some 78), none, .p (.nilck (.tmp 77))⟩, []⟩,
             ⟨14, ⟨(some 79), none, .p (.fieldA 1 (.tmp 78))⟩, []⟩,
             ⟨15, ⟨(some 80), none, .r1 (.tmp 79)⟩, []⟩,
             ⟨16, ⟨(some 81), none, .p (.idxSl 6 (.tmp 76) (.tmp 80))⟩, []⟩,
             ⟨17, ⟨(some 82), none, .rN 6 (.tmp 81)⟩, []⟩,
             ⟨18, ⟨(some 9), none, .w (.alloc 38 [.int .i64 0, .int .i64 0, .int .i64 0, .int .i64 0, .int .u64 0, .slice none 0 0])⟩, []⟩,
             ⟨19, ⟨none, none, .w (.stN 6 (.tmp 9) (.tmp 82))⟩, []⟩])
          (.seq
           (.region [⟨(some 83), none, .p (.mv (.tmp 8))⟩,
              ⟨(some 84), none, .p (.nilck (.tmp 83))⟩,
              ⟨(some 85), none, .p (.fieldA 1 (.tmp 84))⟩,
              ⟨(some 86), none, .r1 (.tmp 85)⟩,
              ⟨(some 87), none, .p (.ibin .add (.tmp 86) (.const (.int .i64 1)))⟩,
              ⟨(some 88), none, .p (.nilck (.tmp 83))⟩,
              ⟨(some 89), none, .p (.fieldA 1 (.tmp 88))⟩,
              ⟨none, none, .w (.st1 (.tmp 89) (.tmp 87))⟩])
           (.region [⟨(some 90), none, .p (.mv (.tmp 0))⟩,
              ⟨(some 91), none, .p (.mv (.tmp 7))⟩,
              ⟨(some 92), none, .p (.mv (.tmp 8))⟩,
              ⟨(some 93), none, .rN 6 (.tmp 9)⟩,
              ⟨(some 94), none, .p (.mv (.tmp 2))⟩,
              ⟨(some 95), none, .w (.call 30 [(.tmp 90), (.tmp 91), (.tmp 92), (.tmp 93), (.tmp 94)])⟩]))))))
      (.seq
       (.seq
        (.region [⟨(some 96), none, .p (.mv (.tmp 0))⟩,
           ⟨(some 97), none, .p (.nilck (.tmp 96))⟩,
           ⟨(some 98), none, .p (.fieldA 8 (.tmp 97))⟩,
           ⟨(some 99), none, .r1 (.tmp 98)⟩,
           ⟨(some 100), none, .p (.not (.tmp 99))⟩,
           ⟨(some 101), none, .p (.mv (.tmp 100))⟩,
           ⟨(some 102), (some (101, true)), .p (.mv (.tmp 0))⟩,
           ⟨(some 103), (some (101, true)), .w (.call 31 [(.tmp 102)])⟩,
           ⟨(some 104), none, .p (.pick (.tmp 101) (.tmp 103) (.const (.bool false)))⟩])
        (.cond (.tmp 104)
         (.region [⟨(some 105), none, .p (.mv (.tmp 0))⟩,
            ⟨(some 106), none, .w (.call 32 [(.tmp 105), (.const (.int .i64 5)), (.const (.int .u64 0))])⟩])
         .skip))
       (.seq
        (.region [⟨(some 6), none, .p (.mv (.const (.int .i64 0)))⟩])
        .ret))))))), [.tmp 6]⟩
theorem comp10 : compFunc Try.prog 10 = some a10 := by kernel_rfl
theorem callable10 : callable Try.prog 10 = true := by kernel_rfl

/-- (*treadle/ideal.Ideal).Tick -/
def a12 : AFunc := ⟨2, (.seq
  (.region [⟨(some 4), none, .p (.mv (.const (.int .i64 0)))⟩])
  (.seq
   (.seq
    (.region [⟨(some 7), none, .p (.mv (.tmp 0))⟩,
       ⟨(some 8), none, .p (.eqp false (.tmp 7) (.const (.pointer none)))⟩,
       ⟨(some 9), none, .p (.mv (.tmp 8))⟩,
       ⟨(some 10), (some (9, false)), .p (.mv (.tmp 0))⟩,
       ⟨(some 11), (some (9, false)), .p (.nilck (.tmp 10))⟩,
       ⟨(some 12), (some (9, false)), .p (.fieldA 8 (.tmp 11))⟩,
       ⟨(some 13), (some (9, false)), .r1 (.tmp 12)⟩,
       ⟨(some 14), none, .p (.pick (.tmp 9) (.const (.bool true)) (.tmp 13))⟩])
    (.cond (.tmp 14)
     (.seq
      (.region [⟨(some 4), none, .p (.mv (.const (.int .i64 5)))⟩])
      .ret)
     .skip))
   (.seq
    (.region [⟨(some 15), none, .p (.mv (.tmp 0))⟩,
       ⟨(some 16), none, .p (.mv (.tmp 0))⟩,
       ⟨(some 17), none, .p (.nilck (.tmp 16))⟩,
       ⟨(some 18), none, .p (.fieldA 6 (.tmp 17))⟩,
       ⟨(some 19), none, .r1 (.tmp 18)⟩,
       ⟨(some 20), none, .p (.mv (.tmp 1))⟩,
       ⟨(some 21), none, .p (.min2 (.tmp 20) (.const (.int .u64 1099511627776)))⟩,
       ⟨(some 22), none, .p (.ibin .add (.tmp 19) (.tmp 21))⟩,
       ⟨(some 23), none, .p (.min2 (.tmp 22) (.const (.int .u64 1099511627776)))⟩,
       ⟨(some 24), none, .p (.nilck (.tmp 15))⟩,
       ⟨(some 25), none, .p (.fieldA 6 (.tmp 24))⟩,
       ⟨none, none, .w (.st1 (.tmp 25) (.tmp 23))⟩])
    (.seq
     (.seq
      (.region [⟨(some 26), none, .p (.mv (.tmp 0))⟩,
         ⟨(some 27), none, .p (.nilck (.tmp 26))⟩,
         ⟨(some 28), none, .p (.fieldA 5 (.tmp 27))⟩,
         ⟨(some 29), none, .r1 (.tmp 28)⟩,
         ⟨(some 30), none, .p (.len false (.tmp 29))⟩,
         ⟨(some 31), none, .p (.mv (.const (.int .i64 0)))⟩])
      (.block 0
       (.loop
        (.seq
         (.region [⟨(some 32), none, .p (.ibin .lss (.tmp 31) (.tmp 30))⟩])
         (.seq
          (.cond (.tmp 32)
           .skip
           (.exit 0))
          (.seq
           (.block 1
            (.seq
             (.region [⟨(some 33), none, .p (.idxSl 1 (.tmp 29) (.tmp 31))⟩,
                ⟨(some 34), none, .r1 (.tmp 33)⟩,
                ⟨(some 6), none, .p (.mv (.tmp 34))⟩])
             (.seq
              (.draw [⟨0, ⟨(some 35), none, .p (.mv (.tmp 6))⟩, []⟩,
                 ⟨1, ⟨(some 36), none, .p (.nilck (.tmp 35))⟩, []⟩,
                 ⟨2, ⟨(some 37), none, .p (.fieldA 2 (.tmp 36))⟩, []⟩,
                 ⟨3, ⟨(some 38), none, .r1 (.tmp 37)⟩, []⟩,
                 ⟨4, ⟨(some 39), none, .p (.mv (.tmp 38))⟩, []⟩,
                 ⟨5, ⟨(some 40), (some (39, true)), .p (.mv (.tmp 6))⟩, []⟩,
                 ⟨6, ⟨(some 41), (some (39, true)), .p (.nilck (.tmp 40))⟩, []⟩,
                 ⟨7, ⟨(some 42), (some (39, true)), .p (.fieldA 1 (.tmp 41))⟩, []⟩,
                 ⟨8, ⟨(some 43), (some (39, true)), .r1 (.tmp 42)⟩, []⟩,
                 ⟨9, ⟨(some 44), (some (39, true)), .p (.mv (.tmp 0))⟩, []⟩,
                 ⟨10, ⟨(some 45), (some (39, true)), .p (.nilck (.tmp 44))⟩, []⟩,
                 ⟨11, ⟨(some 46), (some (39, true)), .p (.fieldA 6 (.tmp 45))⟩, []⟩,
                 ⟨12, ⟨(some 47), (some (39, true)), .r1 (.tmp 46)⟩, []⟩,
                 ⟨13, ⟨(some 48), (some (39, true)), .p (.ibin .leq (.tmp 43) (.tmp 47))⟩, []⟩,
                 ⟨14, ⟨(some 49), none, .p (.pick (.tmp 39) (.tmp 48) (.const (.bool false)))⟩, []⟩])
              (.cond (.tmp 49)
               (.region [⟨(some 50), none, .p (.mv (.tmp 6))⟩,
                  ⟨(some 51), none, .p (.mv (.tmp 6))⟩,
                  ⟨(some 52), none, .p (.nilck (.tmp 50))⟩,
                  ⟨(some 53), none, .p (.fieldA 2 (.tmp 52))⟩,
                  ⟨none, none, .w (.st1 (.tmp 53) (.const (.bool false)))⟩,
                  ⟨(some 54), none, .p (.nilck (.tmp 51))⟩,
                  ⟨(some 55), none, .p (.fieldA 0 (.tmp 54))⟩,
                  ⟨none, none, .w (.st1 (.tmp 55) (.const (.int .i64 1)))⟩])
               .skip))))
           (.region [⟨(some 56), none, .p (.ibin .add (.tmp 31) (.const (.int .i64 1)))⟩,
              ⟨(some 31), none, .p (.mv (.tmp 56))⟩])))))))
     (.seq
      (.region [⟨(some 4), none, .p (.mv (.const (.int .i64 0)))⟩])
      .ret))))), [.tmp 4]⟩
theorem comp12 : compFunc Try.prog 12 = some a12 := by kernel_rfl
theorem callable12 : callable Try.prog 12 = true := by kernel_rfl

/-- treadle/flo.Add -/
def a14 : AFunc := ⟨2, (.seq
  (.region [⟨(some 4), none, .p (.mv (.const (.int .u64 0)))⟩])
  (.seq
   (.region [⟨(some 5), none, .p (.mv (.tmp 0))⟩,
      ⟨(some 6), none, .w (.call 34 [(.tmp 5)])⟩,
      ⟨(some 7), none, .p (.mv (.tmp 1))⟩,
      ⟨(some 8), none, .w (.call 34 [(.tmp 7)])⟩,
      ⟨(some 9), none, .w (.ext (.fbin .add) [(.tmp 6), (.tmp 8)])⟩,
      ⟨(some 10), none, .w (.call 33 [(.tmp 9)])⟩,
      ⟨(some 4), none, .p (.mv (.tmp 10))⟩])
   .ret)), [.tmp 4]⟩
theorem comp14 : compFunc Try.prog 14 = some a14 := by kernel_rfl
theorem callable14 : callable Try.prog 14 = true := by kernel_rfl

/-- treadle/flo.Mul -/
def a16 : AFunc := ⟨2, (.seq
  (.region [⟨(some 4), none, .p (.mv (.const (.int .u64 0)))⟩])
  (.seq
   (.region [⟨(some 5), none, .p (.mv (.tmp 0))⟩,
      ⟨(some 6), none, .w (.call 34 [(.tmp 5)])⟩,
      ⟨(some 7), none, .p (.mv (.tmp 1))⟩,
      ⟨(some 8), none, .w (.call 34 [(.tmp 7)])⟩,
      ⟨(some 9), none, .w (.ext (.fbin .mul) [(.tmp 6), (.tmp 8)])⟩,
      ⟨(some 10), none, .w (.call 33 [(.tmp 9)])⟩,
      ⟨(some 4), none, .p (.mv (.tmp 10))⟩])
   .ret)), [.tmp 4]⟩
theorem comp16 : compFunc Try.prog 16 = some a16 := by kernel_rfl
theorem callable16 : callable Try.prog 16 = true := by kernel_rfl

/-- treadle/flo.Class -/
def a18 : AFunc := ⟨1, (.seq
  (.region [⟨(some 2), none, .p (.mv (.const (.int .i64 0)))⟩])
  (.seq
   (.region [⟨(some 5), none, .p (.mv (.tmp 0))⟩,
      ⟨(some 6), none, .p (.ibin .shr (.tmp 5) (.const (.int .u64 52)))⟩,
      ⟨(some 7), none, .p (.ibin .and (.tmp 6) (.const (.int .u64 2047)))⟩,
      ⟨(some 8), none, .p (.mv (.tmp 0))⟩,
      ⟨(some 9), none, .p (.ibin .and (.tmp 8) (.const (.int .u64 4503599627370495)))⟩,
      ⟨(some 3), none, .p (.mv (.tmp 7))⟩,
      ⟨(some 4), none, .p (.mv (.tmp 9))⟩])
   (.seq
    (.block 0
     (.seq
      (.region [⟨(some 11), none, .p (.mv (.tmp 3))⟩,
         ⟨(some 12), none, .p (.ibin .eql (.tmp 11) (.const (.int .u64 2047)))⟩,
         ⟨(some 13), none, .p (.mv (.tmp 12))⟩,
         ⟨(some 14), (some (13, true)), .p (.mv (.tmp 4))⟩,
         ⟨(some 15), (some (13, true)), .p (.ibin .neq (.tmp 14) (.const (.int .u64 0)))⟩,
         ⟨(some 16), none, .p (.pick (.tmp 13) (.tmp 15) (.const (.bool false)))⟩,
         ⟨(some 10), none, .p (.mv (.tmp 16))⟩])
      (.cond (.tmp 10)
       (.seq
        (.region [⟨(some 2), none, .p (.mv (.const (.int .i64 4)))⟩])
        .ret)
       (.seq
        (.region [⟨(some 18), none, .p (.mv (.tmp 3))⟩,
           ⟨(some 19), none, .p (.ibin .eql (.tmp 18) (.const (.int .u64 2047)))⟩,
           ⟨(some 17), none, .p (.mv (.tmp 19))⟩])
        (.cond (.tmp 17)
         (.seq
          (.region [⟨(some 2), none, .p (.mv (.const (.int .i64 3)))⟩])
          .ret)
         (.seq
          (.region [⟨(some 21), none, .p (.mv (.tmp 3))⟩,
             ⟨(some 22), none, .p (.ibin .neq (.tmp 21) (.const (.int .u64 0)))⟩,
             ⟨(some 20), none, .p (.mv (.tmp 22))⟩])
          (.cond (.tmp 20)
           (.seq
            (.region [⟨(some 2), none, .p (.mv (.const (.int .i64 2)))⟩])
            .ret)
           (.seq
            (.region [⟨(some 24), none, .p (.mv (.tmp 4))⟩,
               ⟨(some 25), none, .p (.ibin .neq (.tmp 24) (.const (.int .u64 0)))⟩,
               ⟨(some 23), none, .p (.mv (.tmp 25))⟩])
            (.cond (.tmp 23)
             (.seq
              (.region [⟨(some 2), none, .p (.mv (.const (.int .i64 1)))⟩])
              .ret)
             .skip)))))))))
    (.seq
     (.region [⟨(some 2), none, .p (.mv (.const (.int .i64 0)))⟩])
     .ret)))), [.tmp 2]⟩
theorem comp18 : compFunc Try.prog 18 = some a18 := by kernel_rfl
theorem callable18 : callable Try.prog 18 = true := by kernel_rfl

/-- treadle/treadlelaw18.shown -/
def a20 : AFunc := ⟨2, (.seq
  (.region [⟨(some 2), none, .w (.box 33 (.tmp 0))⟩,
     ⟨(some 4), none, .p (.mv (.const (.slice none 0 0)))⟩])
  (.seq
   (.region [⟨(some 10), none, .rN 3 (.tmp 2)⟩,
      ⟨(some 11), none, .w (.call 7 [(.tmp 10)])⟩,
      ⟨(some 9), none, .p (.mv (.tmp 11))⟩,
      ⟨(some 12), none, .p (.extract 0 (.tmp 9))⟩,
      ⟨(some 13), none, .p (.extract 1 (.tmp 9))⟩,
      ⟨(some 6), none, .w (.alloc 26 [.int .i64 0, .int .i64 0, .int .i64 0])⟩,
      ⟨(some 5), none, .p (.mv (.tmp 12))⟩,
      ⟨none, none, .w (.stN 3 (.tmp 6) (.tmp 13))⟩])
   (.seq
    (.seq
     (.region [⟨(some 14), none, .p (.mv (.tmp 5))⟩,
        ⟨(some 15), none, .p (.eqp false (.tmp 14) (.const (.pointer none)))⟩,
        ⟨(some 16), none, .p (.mv (.tmp 15))⟩,
        ⟨(some 17), (some (16, false)), .p (.fieldA 0 (.tmp 6))⟩,
        ⟨(some 18), (some (16, false)), .r1 (.tmp 17)⟩,
        ⟨(some 19), (some (16, false)), .p (.ibin .neq (.tmp 18) (.const (.int .i64 0)))⟩,
        ⟨(some 20), none, .p (.pick (.tmp 16) (.const (.bool true)) (.tmp 19))⟩])
     (.cond (.tmp 20)
      (.seq
       (.region [⟨(some 4), none, .p (.mv (.const (.slice none 0 0)))⟩])
       .ret)
      .skip))
    (.seq
     (.seq
      (.region [⟨(some 7), none, .p (.mv (.const (.int .i64 0)))⟩])
      (.block 0
       (.loop
        (.seq
         (.seq
          (.region [⟨(some 21), none, .p (.mv (.tmp 7))⟩,
             ⟨(some 22), none, .p (.mv (.tmp 1))⟩,
             ⟨(some 23), none, .p (.ibin .lss (.tmp 21) (.tmp 22))⟩,
             ⟨(some 24), none, .p (.mv (.tmp 23))⟩,
             ⟨(some 25), (some (24, true)), .p (.mv (.tmp 5))⟩,
             ⟨(some 26), (some (24, true)), .w (.call 13 [(.tmp 25)])⟩,
             ⟨(some 27), (some (24, true)), .p (.not (.tmp 26))⟩,
             ⟨(some 28), none, .p (.pick (.tmp 24) (.tmp 27) (.const (.bool false)))⟩])
          (.cond (.tmp 28)
           .skip
           (.exit 0)))
         (.seq
          (.block 1
           (.seq
            (.region [⟨(some 31), none, .p (.mv (.tmp 5))⟩,
               ⟨(some 32), none, .w (.call 35 [(.tmp 31)])⟩,
               ⟨(some 33), none, .p (.mv (.const (.int .i64 0)))⟩])
            (.block 2
             (.loop
              (.seq
               (.region [⟨(some 34), none, .p (.ibin .lss (.tmp 33) (.tmp 32))⟩])
               (.seq
                (.cond (.tmp 34)
                 .skip
                 (.exit 2))
                (.seq
                 (.block 3
                  (.seq
                   (.region [⟨(some 35), none, .p (.mv (.tmp 33))⟩,
                      ⟨(some 8), none, .p (.mv (.tmp 35))⟩])
                   (.seq
                    (.region [⟨(some 36), none, .p (.mv (.tmp 5))⟩,
                       ⟨(some 37), none, .p (.mv (.tmp 8))⟩,
                       ⟨(some 38), none, .w (.call 11 [(.tmp 36), (.tmp 37)])⟩,
                       ⟨(some 39), none, .p (.ibin .eql (.tmp 38) (.const (.int .i64 1)))⟩])
                    (.cond (.tmp 39)
                     (.seq
                      (.region [⟨(some 40), none, .p (.mv (.tmp 5))⟩,
                         ⟨(some 41), none, .p (.mv (.tmp 8))⟩,
                         ⟨(some 42), none, .p (.mv (.tmp 7))⟩,
                         ⟨(some 43), none, .p (.conv .u64 (.tmp 42))⟩,
                         ⟨(some 44), none, .w (.call 10 [(.tmp 40), (.tmp 41), (.tmp 43)])⟩])
                      (.exit 2))
                     .skip))))
                 (.region [⟨(some 45), none, .p (.ibin .add (.tmp 33) (.const (.int .i64 1)))⟩,
                    ⟨(some 33), none, .p (.mv (.tmp 45))⟩]))))))))
          (.region [⟨(some 29), none, .p (.mv (.tmp 7))⟩,
             ⟨(some 30), none, .p (.ibin .add (.tmp 29) (.const (.int .i64 1)))⟩,
             ⟨(some 7), none, .p (.mv (.tmp 30))⟩]))))))
     (.seq
      (.region [⟨(some 46), none, .p (.mv (.tmp 5))⟩,
         ⟨(some 47), none, .w (.call 23 [(.tmp 46)])⟩,
         ⟨(some 4), none, .p (.mv (.tmp 47))⟩])
      .ret))))), [.tmp 4]⟩
theorem comp20 : compFunc Try.prog 20 = some a20 := by kernel_rfl
theorem callable20 : callable Try.prog 20 = true := by kernel_rfl

/-- (*treadle/ideal.Ideal).Next -/
def a22 : AFunc := ⟨2, (.seq
  (.region [⟨(some 4), none, .w (.alloc 38 [.int .i64 0, .int .i64 0, .int .i64 0, .int .i64 0, .int .u64 0, .slice none 0 0])⟩,
     ⟨(some 5), none, .p (.mv (.const (.bool false)))⟩])
  (.seq
   (.seq
    (.region [⟨(some 8), none, .p (.mv (.tmp 0))⟩,
       ⟨(some 9), none, .p (.mv (.tmp 1))⟩,
       ⟨(some 10), none, .w (.call 11 [(.tmp 8), (.tmp 9)])⟩,
       ⟨(some 11), none, .p (.ibin .neq (.tmp 10) (.const (.int .i64 1)))⟩,
       ⟨(some 12), none, .p (.mv (.tmp 11))⟩,
       ⟨(some 13), (some (12, false)), .p (.mv (.tmp 0))⟩,
       ⟨(some 14), (some (12, false)), .p (.nilck (.tmp 13))⟩,
       ⟨(some 15), (some (12, false)), .p (.fieldA 8 (.tmp 14))⟩,
       ⟨(some 16), (some (12, false)), .r1 (.tmp 15)⟩,
       ⟨(some 17), none, .p (.pick (.tmp 12) (.const (.bool true)) (.tmp 16))⟩,
       ⟨(some 18), none, .p (.mv (.tmp 17))⟩,
       ⟨(some 19), (some (18, false)), .p (.mv (.tmp 0))⟩,
       ⟨(some 20), (some (18, false)), .p (.nilck (.tmp 19))⟩,
       ⟨(some 21), (some (18, false)), .p (.fieldA 5 (.tmp 20))⟩,
       ⟨(some 22), (some (18, false)), .r1 (.tmp 21)⟩,
       ⟨(some 23), (some (18, false)), .p (.mv (.tmp 1))⟩,
       ⟨(some 24), (some (18, false)), .p (.idxSl 1 (.tmp 22) (.tmp 23))⟩,
       ⟨(some 25), (some (18, false)), .r1 (.tmp 24)⟩,
       ⟨(some 26), (some (18, false)), .p (.nilck (.tmp 25))⟩,
       ⟨(some 27), (some (18, false)), .p (.fieldA 7 (.tmp 26))⟩,
       ⟨(some 28), (some (18, false)), .r1 (.tmp 27)⟩,
       ⟨(some 29), none, .p (.pick (.tmp 18) (.const (.bool true)) (.tmp 28))⟩])
    (.cond (.tmp 29)
     (.seq
      (.region [⟨(some 30), none, .p (.build [.int .i64 0, .int .i64 0, .int .i64 0, .int .i64 0, .int .u64 0, .slice none 0 0] [])⟩,
         ⟨none, none, .w (.stN 6 (.tmp 4) (.tmp 30))⟩,
         ⟨(some 5), none, .p (.mv (.const (.bool false)))⟩])
      .ret)
     .skip))
   (.seq
    (.region [⟨(some 31), none, .p (.mv (.tmp 0))⟩,
       ⟨(some 32), none, .p (.nilck (.tmp 31))⟩,
       ⟨(some 33), none, .p (.fieldA 5 (.tmp 32))⟩,
       ⟨(some 34), none, .r1 (.tmp 33)⟩,
       ⟨(some 35), none, .p (.mv (.tmp 1))⟩,
       ⟨(some 36), none, .p (.idxSl 1 (.tmp 34) (.tmp 35))⟩,
       ⟨(some 37), none, .r1 (.tmp 36)⟩,
       ⟨(some 38), none, .w (.call 29 [(.tmp 37)])⟩,
       ⟨(some 6), none, .p (.mv (.tmp 38))⟩])
    (.seq
     (.draw [⟨0, ⟨(some 39), none, .p (.mv (.tmp 0))⟩, []⟩,
        ⟨1, ⟨(some 40), none, .p (.nilck (.tmp 39))⟩, []⟩,
        ⟨2, ⟨(some 41), none, .p (.fieldA 0 (.tmp 40))⟩, []⟩,
        ⟨3, ⟨(some 42), none, .p (.fieldA 2 (.tmp 41))⟩, []⟩,
        ⟨4, ⟨(some 43), none, .r1 (.tmp 42)⟩, []⟩,
        ⟨5, ⟨(some 44), none, .p (.mv (.tmp 6))⟩, []⟩,
        ⟨6, ⟨(some 45), none, .p (.nilck (.tmp 44))⟩, []⟩,
        ⟨7, ⟨(some 46), none, .p (.fieldA 0 (.tmp 45))⟩, []⟩,
        ⟨8, ⟨(some 47), none, .r1 (.tmp 46)⟩, []⟩,
        ⟨9, ⟨(some 48), none, .p (.idxSl 4 (.tmp 43) (.tmp 47))⟩, []⟩,
        ⟨10, ⟨(some 49), none, .p (.fieldA 3 (.tmp 48))⟩, []⟩,
        ⟨11, ⟨(some 50), none, .r1 (.tmp 49)⟩, []⟩,
        ⟨12, ⟨(some 51), none, .p (.mv (.tmp 6))⟩, []⟩,
        ⟨13, ⟨(some 52), none, .p (.nilck (.tmp 51))⟩, []⟩,
        ⟨14, ⟨(some 53), none, .p (.fieldA 1 (.tmp 52))⟩, []⟩,
        ⟨15, ⟨(some 54), none, .r1 (.tmp 53)⟩, []⟩,
        ⟨16, ⟨(some 55), none, .p (.idxSl 6 (.tmp 50) (.tmp 54))⟩, []⟩,
        ⟨17, ⟨(some 56), none, .rN 6 (.tmp 55)⟩, []⟩,
        ⟨18, ⟨(some 7), none, .w (.alloc 38 [.int .i64 0, .int .i64 0, .int .i64 0, .int .i64 0, .int .u64 0, .slice none 0 0])⟩, []⟩,
        ⟨19, ⟨none, none, .w (.stN 6 (.tmp 7) (.tmp 56))⟩, []⟩])
     (.seq
      (.region [⟨(some 57), none, .p (.fieldA 5 (.tmp 7))⟩,
         ⟨(some 58), none, .r1 (.tmp 57)⟩,
         ⟨(some 59), none, .w (.app 3 8 [.int .i64 0] (.const (.slice none 0 0)) (.tmp 58))⟩,
         ⟨(some 60), none, .p (.fieldA 5 (.tmp 7))⟩,
         ⟨none, none, .w (.st1 (.tmp 60) (.tmp 59))⟩])
      (.seq
       (.region [⟨(some 61), none, .rN 6 (.tmp 7)⟩,
          ⟨none, none, .w (.stN 6 (.tmp 4) (.tmp 61))⟩,
          ⟨(some 5), none, .p (.mv (.const (.bool true)))⟩])
       .ret)))))), [.cN 6 4, .tmp 5]⟩
theorem comp22 : compFunc Try.prog 22 = some a22 := by kernel_rfl
theorem callable22 : callable Try.prog 22 = true := by kernel_rfl

/-- (*treadle/ideal.Ideal).Reach -/
def a24 : AFunc := ⟨1, (.seq
  (.region [⟨(some 2), none, .p (.mv (.const (.int .i64 0)))⟩,
     ⟨(some 3), none, .p (.mv (.const (.int .u64 0)))⟩])
  (.seq
   (.seq
    (.region [⟨(some 10), none, .p (.mv (.tmp 0))⟩,
       ⟨(some 11), none, .p (.eqp false (.tmp 10) (.const (.pointer none)))⟩])
    (.cond (.tmp 11)
     (.seq
      (.region [⟨(some 2), none, .p (.mv (.const (.int .i64 0)))⟩,
         ⟨(some 3), none, .p (.mv (.const (.int .u64 0)))⟩])
      .ret)
     .skip))
   (.seq
    (.region [⟨(some 12), none, .p (.mv (.tmp 0))⟩,
       ⟨(some 13), none, .p (.nilck (.tmp 12))⟩,
       ⟨(some 14), none, .p (.fieldA 4 (.tmp 13))⟩,
       ⟨(some 15), none, .r1 (.tmp 14)⟩,
       ⟨(some 16), none, .p (.len false (.tmp 15))⟩,
       ⟨(some 17), none, .w (.mksl 4 1 [.bool false] (.tmp 16) (.tmp 16))⟩,
       ⟨(some 4), none, .w (.alloc 93 [.slice none 0 0])⟩,
       ⟨none, none, .w (.st1 (.tmp 4) (.tmp 17))⟩])
    (.seq
     (.region [⟨(some 5), none, .w (.alloc 70 [.slice none 0 0])⟩])
     (.seq
      (.region [⟨(some 18), none, .p (.mkfn 36 [] [(.tmp 4), (.tmp 5)])⟩,
         ⟨(some 6), none, .p (.mv (.tmp 18))⟩])
      (.seq
       (.region [⟨(some 19), none, .p (.mv (.tmp 0))⟩,
          ⟨(some 20), none, .p (.mv (.tmp 6))⟩,
          ⟨(some 21), none, .w (.call 38 [(.tmp 19), (.tmp 20)])⟩])
       (.seq
        (.region [⟨(some 7), none, .p (.mv (.const (.int .i64 0)))⟩,
           ⟨(some 8), none, .p (.mv (.const (.int .u64 0)))⟩])
        (.seq
         (.block 0
          (.loop
           (.seq
            (.seq
             (.region [⟨(some 22), none, .r1 (.tmp 5)⟩,
                ⟨(some 23), none, .p (.len false (.tmp 22))⟩,
                ⟨(some 24), none, .p (.ibin .gtr (.tmp 23) (.const (.int .i64 0)))⟩])
             (.cond (.tmp 24)
              .skip
              (.exit 0)))
            (.block 1
             (.seq
              (.draw [⟨0, ⟨(some 25), none, .p (.mv (.tmp 0))⟩, []⟩,
                 ⟨1, ⟨(some 26), none, .p (.nilck (.tmp 25))⟩, []⟩,
                 ⟨2, ⟨(some 27), none, .p (.fieldA 4 (.tmp 26))⟩, []⟩,
                 ⟨3, ⟨(some 28), none, .r1 (.tmp 27)⟩, []⟩,
                 ⟨4, ⟨(some 29), none, .r1 (.tmp 5)⟩, []⟩,
                 ⟨5, ⟨(some 30), none, .r1 (.tmp 5)⟩, []⟩,
                 ⟨6, ⟨(some 31), none, .p (.len false (.tmp 30))⟩, []⟩,
                 ⟨7, ⟨(some 32), none, .p (.ibin .sub (.tmp 31) (.const (.int .i64 1)))⟩, []⟩,
                 ⟨8, ⟨(some 33), none, .p (.idxSl 1 (.tmp 29) (.tmp 32))⟩, []⟩,
                 ⟨9, ⟨(some 34), none, .r1 (.tmp 33)⟩, []⟩,
                 ⟨10, ⟨(some 35), none, .p (.idxSl 3 (.tmp 28) (.tmp 34))⟩, []⟩,
                 ⟨11, ⟨(some 36), none, .rN 3 (.tmp 35)⟩, []⟩,
                 ⟨12, ⟨(some 9), none, .w (.alloc 99 [.int .i64 0, .slice none 0 0, .pointer none])⟩, []⟩,
                 ⟨13, ⟨none, none, .w (.stN 3 (.tmp 9) (.tmp 36))⟩, []⟩])
              (.seq
               (.region [⟨(some 37), none, .r1 (.tmp 5)⟩,
                  ⟨(some 38), none, .r1 (.tmp 5)⟩,
                  ⟨(some 39), none, .p (.len false (.tmp 38))⟩,
                  ⟨(some 40), none, .p (.ibin .sub (.tmp 39) (.const (.int .i64 1)))⟩,
                  ⟨(some 41), none, .p (.slc 1 (.tmp 37) none (some (.tmp 40)))⟩,
                  ⟨none, none, .w (.st1 (.tmp 5) (.tmp 41))⟩])
               (.seq
                (.region [⟨(some 42), none, .p (.mv (.tmp 7))⟩,
                   ⟨(some 43), none, .p (.ibin .add (.tmp 42) (.const (.int .i64 1)))⟩,
                   ⟨(some 7), none, .p (.mv (.tmp 43))⟩])
                (.seq
                 (.region [⟨(some 44), none, .p (.mv (.tmp 8))⟩,
                    ⟨(some 45), none, .p (.mv (.tmp 0))⟩,
                    ⟨(some 46), none, .rN 3 (.tmp 9)⟩,
                    ⟨(some 47), none, .w (.call 39 [(.tmp 45), (.tmp 46)])⟩,
                    ⟨(some 48), none, .p (.ibin .add (.tmp 44) (.tmp 47))⟩,
                    ⟨(some 8), none, .p (.mv (.tmp 48))⟩])
                 (.region [⟨(some 49), none, .p (.mv (.tmp 0))⟩,
                    ⟨(some 50), none, .rN 3 (.tmp 9)⟩,
                    ⟨(some 51), none, .p (.mv (.tmp 6))⟩,
                    ⟨(some 52), none, .w (.call 40 [(.tmp 49), (.tmp 50), (.tmp 51)])⟩])))))))))
         (.seq
          (.region [⟨(some 53), none, .p (.mv (.tmp 7))⟩,
             ⟨(some 54), none, .p (.mv (.tmp 8))⟩,
             ⟨(some 2), none, .p (.mv (.tmp 53))⟩,
             ⟨(some 3), none, .p (.mv (.tmp 54))⟩])
          .ret))))))))), [.tmp 2, .tmp 3]⟩
theorem comp24 : compFunc Try.prog 24 = some a24 := by kernel_rfl
theorem callable24 : callable Try.prog 24 = true := by kernel_rfl

/-- treadle/ideal.own -/
def a26 : AFunc := ⟨1, (.seq
  (.region [⟨(some 1), none, .w (.box 33 (.tmp 0))⟩,
     ⟨(some 2), none, .w (.alloc 33 [.slice none 0 0, .slice none 0 0, .slice none 0 0])⟩])
  (.seq
   (.region [⟨(some 9), none, .p (.fieldA 1 (.tmp 1))⟩,
      ⟨(some 10), none, .r1 (.tmp 9)⟩,
      ⟨(some 11), none, .w (.app 59 8 [.int .i64 0] (.const (.slice none 0 0)) (.tmp 10))⟩,
      ⟨(some 12), none, .p (.build [.slice none 0 0, .slice none 0 0, .slice none 0 0] [(1, 1, (.tmp 11))])⟩,
      ⟨(some 3), none, .w (.alloc 33 [.slice none 0 0, .slice none 0 0, .slice none 0 0])⟩,
      ⟨none, none, .w (.stN 3 (.tmp 3) (.tmp 12))⟩])
   (.seq
    (.seq
     (.region [⟨(some 13), none, .p (.fieldA 0 (.tmp 1))⟩,
        ⟨(some 14), none, .r1 (.tmp 13)⟩,
        ⟨(some 15), none, .p (.len false (.tmp 14))⟩,
        ⟨(some 16), none, .p (.mv (.const (.int .i64 0)))⟩])
     (.block 0
      (.loop
       (.seq
        (.region [⟨(some 17), none, .p (.ibin .lss (.tmp 16) (.tmp 15))⟩])
        (.seq
         (.cond (.tmp 17)
          .skip
          (.exit 0))
         (.seq
          (.block 1
           (.seq
            (.region [⟨(some 18), none, .p (.idxSl 2 (.tmp 14) (.tmp 16))⟩,
               ⟨(some 19), none, .rN 2 (.tmp 18)⟩,
               ⟨(some 5), none, .w (.alloc 61 [.bool false, .slice none 0 0])⟩,
               ⟨none, none, .w (.stN 2 (.tmp 5) (.tmp 19))⟩])
            (.seq
             (.region [⟨(some 20), none, .p (.fieldA 1 (.tmp 5))⟩,
                ⟨(some 21), none, .r1 (.tmp 20)⟩,
                ⟨(some 22), none, .w (.app 59 8 [.int .i64 0] (.const (.slice none 0 0)) (.tmp 21))⟩,
                ⟨(some 23), none, .p (.fieldA 1 (.tmp 5))⟩,
                ⟨none, none, .w (.st1 (.tmp 23) (.tmp 22))⟩])
             (.region [⟨(some 24), none, .p (.fieldA 0 (.tmp 3))⟩,
                ⟨(some 25), none, .r1 (.tmp 24)⟩,
                ⟨(some 26), none, .rN 2 (.tmp 5)⟩,
                ⟨(some 27), none, .w (.bslice 61 1 [.bool false, .slice none 0 0] [(0, 2, (.tmp 26))])⟩,
                ⟨(some 28), none, .w (.app 61 32 [.bool false, .slice none 0 0] (.tmp 25) (.tmp 27))⟩,
                ⟨(some 29), none, .p (.fieldA 0 (.tmp 3))⟩,
                ⟨none, none, .w (.st1 (.tmp 29) (.tmp 28))⟩]))))
          (.region [⟨(some 30), none, .p (.ibin .add (.tmp 16) (.const (.int .i64 1)))⟩,
             ⟨(some 16), none, .p (.mv (.tmp 30))⟩])))))))
    (.seq
     (.seq
      (.region [⟨(some 31), none, .p (.fieldA 2 (.tmp 1))⟩,
         ⟨(some 32), none, .r1 (.tmp 31)⟩,
         ⟨(some 33), none, .p (.len false (.tmp 32))⟩,
         ⟨(some 34), none, .p (.mv (.const (.int .i64 0)))⟩])
      (.block 2
       (.loop
        (.seq
         (.region [⟨(some 35), none, .p (.ibin .lss (.tmp 34) (.tmp 33))⟩])
         (.seq
          (.cond (.tmp 35)
           .skip
           (.exit 2))
          (.seq
           (.block 3
            (.seq
             (.region [⟨(some 36), none, .p (.idxSl 4 (.tmp 32) (.tmp 34))⟩,
                ⟨(some 37), none, .rN 4 (.tmp 36)⟩,
                ⟨(some 7), none, .w (.alloc 64 [.int .i64 0, .slice none 0 0, .slice none 0 0, .slice none 0 0])⟩,
                ⟨none, none, .w (.stN 4 (.tmp 7) (.tmp 37))⟩])
             (.seq
              (.region [⟨(some 38), none, .p (.fieldA 1 (.tmp 7))⟩,
                 ⟨(some 39), none, .r1 (.tmp 38)⟩,
                 ⟨(some 40), none, .w (.app 59 8 [.int .i64 0] (.const (.slice none 0 0)) (.tmp 39))⟩,
                 ⟨(some 41), none, .p (.fieldA 1 (.tmp 7))⟩,
                 ⟨none, none, .w (.st1 (.tmp 41) (.tmp 40))⟩])
              (.seq
               (.region [⟨(some 42), none, .p (.fieldA 2 (.tmp 7))⟩,
                  ⟨(some 43), none, .r1 (.tmp 42)⟩,
                  ⟨(some 44), none, .w (.app 59 8 [.int .i64 0] (.const (.slice none 0 0)) (.tmp 43))⟩,
                  ⟨(some 45), none, .p (.fieldA 2 (.tmp 7))⟩,
                  ⟨none, none, .w (.st1 (.tmp 45) (.tmp 44))⟩])
               (.seq
                (.region [⟨(some 46), none, .p (.fieldA 3 (.tmp 7))⟩,
                   ⟨(some 47), none, .r1 (.tmp 46)⟩,
                   ⟨(some 48), none, .w (.app 38 64 [.int .i64 0, .int .i64 0, .int .i64 0, .int .i64 0, .int .u64 0, .slice none 0 0] (.const (.slice none 0 0)) (.tmp 47))⟩,
                   ⟨(some 49), none, .p (.fieldA 3 (.tmp 7))⟩,
                   ⟨none, none, .w (.st1 (.tmp 49) (.tmp 48))⟩])
                (.seq
                 (.seq
                  (.region [⟨(some 50), none, .p (.fieldA 3 (.tmp 7))⟩,
                     ⟨(some 51), none, .r1 (.tmp 50)⟩,
                     ⟨(some 52), none, .p (.len false (.tmp 51))⟩,
                     ⟨(some 53), none, .p (.mv (.const (.int .i64 0)))⟩])
                  (.block 4
                   (.loop
                    (.seq
                     (.region [⟨(some 54), none, .p (.ibin .lss (.tmp 53) (.tmp 52))⟩])
                     (.seq
                      (.cond (.tmp 54)
                       .skip
                       (.exit 4))
                      (.seq
                       (.block 5
                        (.seq
                         (.region [⟨(some 55), none, .p (.mv (.tmp 53))⟩,
                            ⟨(some 8), none, .p (.mv (.tmp 55))⟩])
                         (.draw [⟨0, ⟨(some 56), none, .p (.fieldA 3 (.tmp 7))⟩, []⟩,
                            ⟨1, ⟨(some 57), none, .r1 (.tmp 56)⟩, []⟩,
                            ⟨2, ⟨(some 58), none, .p (.mv (.tmp 8))⟩, []⟩,
                            ⟨3, ⟨(some 59), none, .p (.fieldA 3 (.tmp 7))⟩, []⟩,
                            ⟨4, ⟨(some 60), none, .r1 (.tmp 59)⟩, []⟩,
                            ⟨5, ⟨(some 61), none, .p (.mv (.tmp 8))⟩, []⟩,
                            ⟨6, ⟨(some 62), none, .p (.idxSl 6 (.tmp 60) (.tmp 61))⟩, []⟩,
                            ⟨7, ⟨(some 63), none, .p (.fieldA 5 (.tmp 62))⟩, []⟩,
                            ⟨8, ⟨(some 64), none, .r1 (.tmp 63)⟩, []⟩,
                            ⟨9, ⟨(some 65), none, .w (.app 3 8 [.int .i64 0] (.const (.slice none 0 0)) (.tmp 64))⟩, [1]⟩,
                            ⟨10, ⟨(some 66), none, .p (.idxSl 6 (.tmp 57) (.tmp 58))⟩, []⟩,
                            ⟨11, ⟨(some 67), none, .p (.fieldA 5 (.tmp 66))⟩, []⟩,
                            ⟨12, ⟨none, none, .w (.st1 (.tmp 67) (.tmp 65))⟩, []⟩])))
                       (.region [⟨(some 68), none, .p (.ibin .add (.tmp 53) (.const (.int .i64 1)))⟩,
                          ⟨(some 53), none, .p (.mv (.tmp 68))⟩])))))))
                 (.region [⟨(some 69), none, .p (.fieldA 2 (.tmp 3))⟩,
                    ⟨(some 70), none, .r1 (.tmp 69)⟩,
                    ⟨(some 71), none, .rN 4 (.tmp 7)⟩,
                    ⟨(some 72), none, .w (.bslice 64 1 [.int .i64 0, .slice none 0 0, .slice none 0 0, .slice none 0 0] [(0, 4, (.tmp 71))])⟩,
                    ⟨(some 73), none, .w (.app 64 80 [.int .i64 0, .slice none 0 0, .slice none 0 0, .slice none 0 0] (.tmp 70) (.tmp 72))⟩,
                    ⟨(some 74), none, .p (.fieldA 2 (.tmp 3))⟩,
                    ⟨none, none, .w (.st1 (.tmp 74) (.tmp 73))⟩])))))))
           (.region [⟨(some 75), none, .p (.ibin .add (.tmp 34) (.const (.int .i64 1)))⟩,
              ⟨(some 34), none, .p (.mv (.tmp 75))⟩])))))))
     (.seq
      (.region [⟨(some 76), none, .rN 3 (.tmp 3)⟩,
         ⟨none, none, .w (.stN 3 (.tmp 2) (.tmp 76))⟩])
      .ret))))), [.cN 3 2]⟩
theorem comp26 : compFunc Try.prog 26 = some a26 := by kernel_rfl
theorem callable26 : callable Try.prog 26 = true := by kernel_rfl

/-- (*treadle/ideal.Ideal).panic -/
def a28 : AFunc := ⟨2, (.seq
  (.draw [⟨0, ⟨(some 5), none, .p (.mv (.tmp 0))⟩, []⟩,
     ⟨1, ⟨(some 6), none, .p (.nilck (.tmp 5))⟩, []⟩,
     ⟨2, ⟨(some 7), none, .p (.fieldA 5 (.tmp 6))⟩, []⟩,
     ⟨3, ⟨(some 8), none, .r1 (.tmp 7)⟩, []⟩,
     ⟨4, ⟨(some 9), none, .p (.mv (.tmp 0))⟩, []⟩,
     ⟨5, ⟨(some 10), none, .p (.nilck (.tmp 9))⟩, []⟩,
     ⟨6, ⟨(some 11), none, .p (.fieldA 9 (.tmp 10))⟩, []⟩,
     ⟨7, ⟨(some 12), none, .r1 (.tmp 11)⟩, []⟩,
     ⟨8, ⟨(some 13), none, .p (.idxSl 1 (.tmp 8) (.tmp 12))⟩, []⟩,
     ⟨9, ⟨(some 14), none, .r1 (.tmp 13)⟩, []⟩,
     ⟨10, ⟨(some 4), none, .p (.mv (.tmp 14))⟩, []⟩])
  (.seq
   (.region [⟨(some 15), none, .p (.mv (.tmp 4))⟩,
      ⟨(some 16), none, .p (.mv (.tmp 4))⟩,
      ⟨(some 17), none, .p (.mv (.tmp 1))⟩,
      ⟨(some 18), none, .p (.nilck (.tmp 15))⟩,
      ⟨(some 19), none, .p (.fieldA 5 (.tmp 18))⟩,
      ⟨none, none, .w (.st1 (.tmp 19) (.const (.bool true)))⟩,
      ⟨(some 20), none, .p (.nilck (.tmp 16))⟩,
      ⟨(some 21), none, .p (.fieldA 6 (.tmp 20))⟩,
      ⟨none, none, .w (.st1 (.tmp 21) (.tmp 17))⟩])
   (.region [⟨(some 22), none, .p (.mv (.tmp 0))⟩,
      ⟨(some 23), none, .p (.mv (.tmp 4))⟩,
      ⟨(some 24), none, .w (.call 46 [(.tmp 22), (.tmp 23)])⟩]))), []⟩
theorem comp28 : compFunc Try.prog 28 = some a28 := by kernel_rfl
theorem callable28 : callable Try.prog 28 = true := by kernel_rfl

/-- (*treadle/ideal.Ideal).execute -/
def a30 : AFunc := ⟨5, (.seq
  (.region [⟨(some 8), none, .w (.box 38 (.tmp 3))⟩])
  (.seq
   (.region [⟨(some 16), none, .p (.mv (.tmp 2))⟩,
      ⟨(some 17), none, .p (.nilck (.tmp 16))⟩,
      ⟨(some 18), none, .p (.fieldA 3 (.tmp 17))⟩,
      ⟨(some 19), none, .r1 (.tmp 18)⟩,
      ⟨(some 10), none, .p (.mv (.tmp 19))⟩])
   (.seq
    (.region [⟨(some 20), none, .p (.fieldA 0 (.tmp 8))⟩,
       ⟨(some 21), none, .r1 (.tmp 20)⟩])
    (.block 0
     (.seq
      (.region [⟨(some 29), none, .p (.ibin .eql (.tmp 21) (.const (.int .i64 1)))⟩,
         ⟨(some 28), none, .p (.mv (.tmp 29))⟩])
      (.cond (.tmp 28)
       (.seq
        (.region [⟨(some 30), none, .p (.mv (.tmp 10))⟩,
           ⟨(some 31), none, .p (.fieldA 1 (.tmp 8))⟩,
           ⟨(some 32), none, .r1 (.tmp 31)⟩,
           ⟨(some 33), none, .p (.fieldA 4 (.tmp 8))⟩,
           ⟨(some 34), none, .r1 (.tmp 33)⟩,
           ⟨(some 35), none, .p (.idxSl 1 (.tmp 30) (.tmp 32))⟩,
           ⟨none, none, .w (.st1 (.tmp 35) (.tmp 34))⟩])
        (.seq
         (.draw [⟨0, ⟨(some 36), none, .p (.mv (.tmp 0))⟩, []⟩,
            ⟨1, ⟨(some 37), none, .p (.nilck (.tmp 36))⟩, []⟩,
            ⟨2, ⟨(some 38), none, .p (.fieldA 0 (.tmp 37))⟩, []⟩,
            ⟨3, ⟨(some 39), none, .p (.fieldA 2 (.tmp 38))⟩, []⟩,
            ⟨4, ⟨(some 40), none, .r1 (.tmp 39)⟩, []⟩,
            ⟨5, ⟨(some 41), none, .p (.mv (.tmp 2))⟩, []⟩,
            ⟨6, ⟨(some 42), none, .p (.nilck (.tmp 41))⟩, []⟩,
            ⟨7, ⟨(some 43), none, .p (.fieldA 0 (.tmp 42))⟩, []⟩,
            ⟨8, ⟨(some 44), none, .r1 (.tmp 43)⟩, []⟩,
            ⟨9, ⟨(some 45), none, .p (.idxSl 4 (.tmp 40) (.tmp 44))⟩, []⟩,
            ⟨10, ⟨(some 46), none, .p (.fieldA 1 (.tmp 45))⟩, []⟩,
            ⟨11, ⟨(some 47), none, .r1 (.tmp 46)⟩, []⟩,
            ⟨12, ⟨(some 48), none, .p (.fieldA 1 (.tmp 8))⟩, []⟩,
            ⟨13, ⟨(some 49), none, .r1 (.tmp 48)⟩, []⟩,
            ⟨14, ⟨(some 50), none, .p (.idxSl 1 (.tmp 47) (.tmp 49))⟩, []⟩,
            ⟨15, ⟨(some 51), none, .r1 (.tmp 50)⟩, []⟩,
            ⟨16, ⟨(some 52), none, .p (.ibin .eql (.tmp 51) (.const (.int .i64 1)))⟩, []⟩])
         (.cond (.tmp 52)
          (.draw [⟨0, ⟨(some 53), none, .p (.mv (.tmp 10))⟩, []⟩,
             ⟨1, ⟨(some 54), none, .p (.fieldA 1 (.tmp 8))⟩, []⟩,
             ⟨2, ⟨(some 55), none, .r1 (.tmp 54)⟩, []⟩,
             ⟨3, ⟨(some 56), none, .p (.fieldA 4 (.tmp 8))⟩, []⟩,
             ⟨4, ⟨(some 57), none, .r1 (.tmp 56)⟩, []⟩,
             ⟨5, ⟨(some 58), none, .w (.call 47 [(.tmp 57)])⟩, [2]⟩,
             ⟨6, ⟨(some 59), none, .p (.idxSl 1 (.tmp 53) (.tmp 55))⟩, []⟩,
             ⟨7, ⟨none, none, .w (.st1 (.tmp 59) (.tmp 58))⟩, []⟩])
          .skip)))
       (.seq
        (.region [⟨(some 61), none, .p (.ibin .eql (.tmp 21) (.const (.int .i64 2)))⟩,
           ⟨(some 60), none, .p (.mv (.tmp 61))⟩])
        (.cond (.tmp 60)
         (.draw [⟨0, ⟨(some 62), none, .p (.mv (.tmp 10))⟩, []⟩,
            ⟨1, ⟨(some 63), none, .p (.fieldA 1 (.tmp 8))⟩, []⟩,
            ⟨2, ⟨(some 64), none, .r1 (.tmp 63)⟩, []⟩,
            ⟨3, ⟨(some 65), none, .p (.mv (.tmp 10))⟩, []⟩,
            ⟨4, ⟨(some 66), none, .p (.fieldA 2 (.tmp 8))⟩, []⟩,
            ⟨5, ⟨(some 67), none, .r1 (.tmp 66)⟩, []⟩,
            ⟨6, ⟨(some 68), none, .p (.idxSl 1 (.tmp 65) (.tmp 67))⟩, []⟩,
            ⟨7, ⟨(some 69), none, .r1 (.tmp 68)⟩, []⟩,
            ⟨8, ⟨(some 70), none, .p (.idxSl 1 (.tmp 62) (.tmp 64))⟩, []⟩,
            ⟨9, ⟨none, none, .w (.st1 (.tmp 70) (.tmp 69))⟩, []⟩])
         (.seq
          (.seq
           (.region [⟨(some 72), none, .p (.ibin .eql (.tmp 21) (.const (.int .i64 3)))⟩,
              ⟨(some 71), none, .p (.mv (.tmp 72))⟩])
           (.cond (.tmp 71)
            .skip
            (.seq
             (.region [⟨(some 73), none, .p (.ibin .eql (.tmp 21) (.const (.int .i64 4)))⟩,
                ⟨(some 71), none, .p (.mv (.tmp 73))⟩])
             (.cond (.tmp 71)
              .skip
              (.seq
               (.region [⟨(some 74), none, .p (.ibin .eql (.tmp 21) (.const (.int .i64 5)))⟩,
                  ⟨(some 71), none, .p (.mv (.tmp 74))⟩])
               (.cond (.tmp 71)
                .skip
                (.seq
                 (.region [⟨(some 75), none, .p (.ibin .eql (.tmp 21) (.const (.int .i64 6)))⟩,
                    ⟨(some 71), none, .p (.mv (.tmp 75))⟩])
                 (.cond (.tmp 71)
                  .skip
                  (.seq
                   (.region [⟨(some 76), none, .p (.ibin .eql (.tmp 21) (.const (.int .i64 7)))⟩,
                      ⟨(some 71), none, .p (.mv (.tmp 76))⟩])
                   (.cond (.tmp 71)
                    .skip
                    (.seq
                     (.region [⟨(some 77), none, .p (.ibin .eql (.tmp 21) (.const (.int .i64 8)))⟩,
                        ⟨(some 71), none, .p (.mv (.tmp 77))⟩])
                     (.cond (.tmp 71)
                      .skip
                      (.seq
                       (.region [⟨(some 78), none, .p (.ibin .eql (.tmp 21) (.const (.int .i64 9)))⟩,
                          ⟨(some 71), none, .p (.mv (.tmp 78))⟩])
                       (.cond (.tmp 71)
                        .skip
                        (.seq
                         (.region [⟨(some 79), none, .p (.ibin .eql (.tmp 21) (.const (.int .i64 10)))⟩,
                            ⟨(some 71), none, .p (.mv (.tmp 79))⟩])
                         (.cond (.tmp 71)
                          .skip
                          (.seq
                           (.region [⟨(some 80), none, .p (.ibin .eql (.tmp 21) (.const (.int .i64 11)))⟩,
                              ⟨(some 71), none, .p (.mv (.tmp 80))⟩])
                           (.cond (.tmp 71)
                            .skip
                            (.seq
                             (.region [⟨(some 81), none, .p (.ibin .eql (.tmp 21) (.const (.int .i64 12)))⟩,
                                ⟨(some 71), none, .p (.mv (.tmp 81))⟩])
                             (.cond (.tmp 71)
                              .skip
                              (.seq
                               (.region [⟨(some 82), none, .p (.ibin .eql (.tmp 21) (.const (.int .i64 13)))⟩,
                                  ⟨(some 71), none, .p (.mv (.tmp 82))⟩])
                               (.cond (.tmp 71)
                                .skip
                                (.seq
                                 (.region [⟨(some 83), none, .p (.ibin .eql (.tmp 21) (.const (.int .i64 14)))⟩,
                                    ⟨(some 71), none, .p (.mv (.tmp 83))⟩])
                                 (.cond (.tmp 71)
                                  .skip
                                  (.region [⟨(some 84), none, .p (.ibin .eql (.tmp 21) (.const (.int .i64 23)))⟩,
                                     ⟨(some 71), none, .p (.mv (.tmp 84))⟩])))))))))))))))))))))))))
          (.cond (.tmp 71)
           (.seq
            (.draw [⟨0, ⟨(some 86), none, .p (.fieldA 0 (.tmp 8))⟩, []⟩,
               ⟨1, ⟨(some 87), none, .r1 (.tmp 86)⟩, []⟩,
               ⟨2, ⟨(some 88), none, .p (.mv (.tmp 10))⟩, []⟩,
               ⟨3, ⟨(some 89), none, .p (.fieldA 2 (.tmp 8))⟩, []⟩,
               ⟨4, ⟨(some 90), none, .r1 (.tmp 89)⟩, []⟩,
               ⟨5, ⟨(some 91), none, .p (.idxSl 1 (.tmp 88) (.tmp 90))⟩, []⟩,
               ⟨6, ⟨(some 92), none, .r1 (.tmp 91)⟩, []⟩,
               ⟨7, ⟨(some 93), none, .p (.mv (.tmp 10))⟩, []⟩,
               ⟨8, ⟨(some 94), none, .p (.fieldA 3 (.tmp 8))⟩, []⟩,
               ⟨9, ⟨(some 95), none, .r1 (.tmp 94)⟩, []⟩,
               ⟨10, ⟨(some 96), none, .p (.idxSl 1 (.tmp 93) (.tmp 95))⟩, []⟩,
               ⟨11, ⟨(some 97), none, .r1 (.tmp 96)⟩, []⟩,
               ⟨12, ⟨(some 98), none, .w (.call 48 [(.tmp 87), (.tmp 92), (.tmp 97)])⟩, []⟩,
               ⟨13, ⟨(some 85), none, .p (.mv (.tmp 98))⟩, []⟩,
               ⟨14, ⟨(some 99), none, .p (.extract 0 (.tmp 85))⟩, []⟩,
               ⟨15, ⟨(some 100), none, .p (.extract 1 (.tmp 85))⟩, []⟩,
               ⟨16, ⟨(some 11), none, .p (.mv (.tmp 99))⟩, []⟩,
               ⟨17, ⟨(some 12), none, .p (.mv (.tmp 100))⟩, []⟩])
            (.seq
             (.seq
              (.region [⟨(some 101), none, .p (.mv (.tmp 12))⟩,
                 ⟨(some 102), none, .p (.not (.tmp 101))⟩])
              (.cond (.tmp 102)
               (.seq
                (.region [⟨(some 103), none, .p (.mv (.tmp 0))⟩,
                   ⟨(some 104), none, .w (.call 28 [(.tmp 103), (.const (.int .i64 (-3)))])⟩])
                .ret)
               .skip))
             (.region [⟨(some 105), none, .p (.mv (.tmp 10))⟩,
                ⟨(some 106), none, .p (.fieldA 1 (.tmp 8))⟩,
                ⟨(some 107), none, .r1 (.tmp 106)⟩,
                ⟨(some 108), none, .p (.mv (.tmp 11))⟩,
                ⟨(some 109), none, .p (.idxSl 1 (.tmp 105) (.tmp 107))⟩,
                ⟨none, none, .w (.st1 (.tmp 109) (.tmp 108))⟩])))
           (.seq
            (.seq
             (.region [⟨(some 111), none, .p (.ibin .eql (.tmp 21) (.const (.int .i64 15)))⟩,
                ⟨(some 110), none, .p (.mv (.tmp 111))⟩])
             (.cond (.tmp 110)
              .skip
              (.seq
               (.region [⟨(some 112), none, .p (.ibin .eql (.tmp 21) (.const (.int .i64 16)))⟩,
                  ⟨(some 110), none, .p (.mv (.tmp 112))⟩])
               (.cond (.tmp 110)
                .skip
                (.seq
                 (.region [⟨(some 113), none, .p (.ibin .eql (.tmp 21) (.const (.int .i64 17)))⟩,
                    ⟨(some 110), none, .p (.mv (.tmp 113))⟩])
                 (.cond (.tmp 110)
                  .skip
                  (.seq
                   (.region [⟨(some 114), none, .p (.ibin .eql (.tmp 21) (.const (.int .i64 18)))⟩,
                      ⟨(some 110), none, .p (.mv (.tmp 114))⟩])
                   (.cond (.tmp 110)
                    .skip
                    (.seq
                     (.region [⟨(some 115), none, .p (.ibin .eql (.tmp 21) (.const (.int .i64 19)))⟩,
                        ⟨(some 110), none, .p (.mv (.tmp 115))⟩])
                     (.cond (.tmp 110)
                      .skip
                      (.region [⟨(some 116), none, .p (.ibin .eql (.tmp 21) (.const (.int .i64 20)))⟩,
                         ⟨(some 110), none, .p (.mv (.tmp 116))⟩])))))))))))
            (.cond (.tmp 110)
             (.draw [⟨0, ⟨(some 117), none, .p (.mv (.tmp 10))⟩, []⟩,
                ⟨1, ⟨(some 118), none, .p (.fieldA 1 (.tmp 8))⟩, []⟩,
                ⟨2, ⟨(some 119), none, .r1 (.tmp 118)⟩, []⟩,
                ⟨3, ⟨(some 120), none, .p (.fieldA 0 (.tmp 8))⟩, []⟩,
                ⟨4, ⟨(some 121), none, .r1 (.tmp 120)⟩, []⟩,
                ⟨5, ⟨(some 122), none, .p (.mv (.tmp 10))⟩, []⟩,
                ⟨6, ⟨(some 123), none, .p (.fieldA 2 (.tmp 8))⟩, []⟩,
                ⟨7, ⟨(some 124), none, .r1 (.tmp 123)⟩, []⟩,
                ⟨8, ⟨(some 125), none, .p (.idxSl 1 (.tmp 122) (.tmp 124))⟩, []⟩,
                ⟨9, ⟨(some 126), none, .r1 (.tmp 125)⟩, []⟩,
                ⟨10, ⟨(some 127), none, .p (.mv (.tmp 10))⟩, []⟩,
                ⟨11, ⟨(some 128), none, .p (.fieldA 3 (.tmp 8))⟩, []⟩,
                ⟨12, ⟨(some 129), none, .r1 (.tmp 128)⟩, []⟩,
                ⟨13, ⟨(some 130), none, .p (.idxSl 1 (.tmp 127) (.tmp 129))⟩, []⟩,
                ⟨14, ⟨(some 131), none, .r1 (.tmp 130)⟩, []⟩,
                ⟨15, ⟨(some 132), none, .w (.call 49 [(.tmp 121), (.tmp 126), (.tmp 131)])⟩, [2]⟩,
                ⟨16, ⟨(some 133), none, .p (.idxSl 1 (.tmp 117) (.tmp 119))⟩, []⟩,
                ⟨17, ⟨none, none, .w (.st1 (.tmp 133) (.tmp 132))⟩, []⟩])
             (.seq
              (.region [⟨(some 135), none, .p (.ibin .eql (.tmp 21) (.const (.int .i64 21)))⟩,
                 ⟨(some 134), none, .p (.mv (.tmp 135))⟩])
              (.cond (.tmp 134)
               (.draw [⟨0, ⟨(some 136), none, .p (.mv (.tmp 10))⟩, []⟩,
                  ⟨1, ⟨(some 137), none, .p (.fieldA 1 (.tmp 8))⟩, []⟩,
                  ⟨2, ⟨(some 138), none, .r1 (.tmp 137)⟩, []⟩,
                  ⟨3, ⟨(some 139), none, .p (.mv (.tmp 10))⟩, []⟩,
                  ⟨4, ⟨(some 140), none, .p (.fieldA 2 (.tmp 8))⟩, []⟩,
                  ⟨5, ⟨(some 141), none, .r1 (.tmp 140)⟩, []⟩,
                  ⟨6, ⟨(some 142), none, .p (.idxSl 1 (.tmp 139) (.tmp 141))⟩, []⟩,
                  ⟨7, ⟨(some 143), none, .r1 (.tmp 142)⟩, []⟩,
                  ⟨8, ⟨(some 144), none, .p (.conv .i64 (.tmp 143))⟩, []⟩,
                  ⟨9, ⟨(some 145), none, .w (.call 50 [(.tmp 144)])⟩, [2]⟩,
                  ⟨10, ⟨(some 146), none, .p (.idxSl 1 (.tmp 136) (.tmp 138))⟩, []⟩,
                  ⟨11, ⟨none, none, .w (.st1 (.tmp 146) (.tmp 145))⟩, []⟩])
               (.seq
                (.region [⟨(some 148), none, .p (.ibin .eql (.tmp 21) (.const (.int .i64 22)))⟩,
                   ⟨(some 147), none, .p (.mv (.tmp 148))⟩])
                (.cond (.tmp 147)
                 (.draw [⟨0, ⟨(some 149), none, .p (.mv (.tmp 10))⟩, []⟩,
                    ⟨1, ⟨(some 150), none, .p (.fieldA 1 (.tmp 8))⟩, []⟩,
                    ⟨2, ⟨(some 151), none, .r1 (.tmp 150)⟩, []⟩,
                    ⟨3, ⟨(some 152), none, .p (.mv (.tmp 10))⟩, []⟩,
                    ⟨4, ⟨(some 153), none, .p (.fieldA 2 (.tmp 8))⟩, []⟩,
                    ⟨5, ⟨(some 154), none, .r1 (.tmp 153)⟩, []⟩,
                    ⟨6, ⟨(some 155), none, .p (.idxSl 1 (.tmp 152) (.tmp 154))⟩, []⟩,
                    ⟨7, ⟨(some 156), none, .r1 (.tmp 155)⟩, []⟩,
                    ⟨8, ⟨(some 157), none, .w (.call 21 [(.tmp 156)])⟩, [2]⟩,
                    ⟨9, ⟨(some 158), none, .p (.conv .u64 (.tmp 157))⟩, []⟩,
                    ⟨10, ⟨(some 159), none, .p (.idxSl 1 (.tmp 149) (.tmp 151))⟩, []⟩,
                    ⟨11, ⟨none, none, .w (.st1 (.tmp 159) (.tmp 158))⟩, []⟩])
                 (.seq
                  (.region [⟨(some 161), none, .p (.ibin .eql (.tmp 21) (.const (.int .i64 24)))⟩,
                     ⟨(some 160), none, .p (.mv (.tmp 161))⟩])
                  (.cond (.tmp 160)
                   (.region [⟨(some 162), none, .p (.mv (.tmp 2))⟩,
                      ⟨(some 163), none, .p (.fieldA 1 (.tmp 8))⟩,
                      ⟨(some 164), none, .r1 (.tmp 163)⟩,
                      ⟨(some 165), none, .p (.nilck (.tmp 162))⟩,
                      ⟨(some 166), none, .p (.fieldA 1 (.tmp 165))⟩,
                      ⟨none, none, .w (.st1 (.tmp 166) (.tmp 164))⟩])
                   (.seq
                    (.region [⟨(some 168), none, .p (.ibin .eql (.tmp 21) (.const (.int .i64 25)))⟩,
                       ⟨(some 167), none, .p (.mv (.tmp 168))⟩])
                    (.cond (.tmp 167)
                     (.seq
                      (.region [⟨(some 169), none, .p (.mv (.tmp 10))⟩,
                         ⟨(some 170), none, .p (.fieldA 1 (.tmp 8))⟩,
                         ⟨(some 171), none, .r1 (.tmp 170)⟩,
                         ⟨(some 172), none, .p (.idxSl 1 (.tmp 169) (.tmp 171))⟩,
                         ⟨(some 173), none, .r1 (.tmp 172)⟩,
                         ⟨(some 174), none, .p (.ibin .eql (.tmp 173) (.const (.int .u64 0)))⟩])
                      (.cond (.tmp 174)
                       (.region [⟨(some 175), none, .p (.mv (.tmp 2))⟩,
                          ⟨(some 176), none, .p (.fieldA 2 (.tmp 8))⟩,
                          ⟨(some 177), none, .r1 (.tmp 176)⟩,
                          ⟨(some 178), none, .p (.nilck (.tmp 175))⟩,
                          ⟨(some 179), none, .p (.fieldA 1 (.tmp 178))⟩,
                          ⟨none, none, .w (.st1 (.tmp 179) (.tmp 177))⟩])
                       .skip))
                     (.seq
                      (.region [⟨(some 181), none, .p (.ibin .eql (.tmp 21) (.const (.int .i64 47)))⟩,
                         ⟨(some 180), none, .p (.mv (.tmp 181))⟩])
                      (.cond (.tmp 180)
                       .skip
                       (.seq
                        (.region [⟨(some 183), none, .p (.ibin .eql (.tmp 21) (.const (.int .i64 52)))⟩,
                           ⟨(some 182), none, .p (.mv (.tmp 183))⟩])
                        (.cond (.tmp 182)
                         (.region [⟨(some 184), none, .p (.mv (.tmp 0))⟩,
                            ⟨(some 185), none, .p (.mv (.tmp 10))⟩,
                            ⟨(some 186), none, .p (.fieldA 1 (.tmp 8))⟩,
                            ⟨(some 187), none, .r1 (.tmp 186)⟩,
                            ⟨(some 188), none, .p (.idxSl 1 (.tmp 185) (.tmp 187))⟩,
                            ⟨(some 189), none, .r1 (.tmp 188)⟩,
                            ⟨(some 190), none, .w (.call 32 [(.tmp 184), (.const (.int .i64 3)), (.tmp 189)])⟩])
                         (.seq
                          (.region [⟨(some 192), none, .p (.ibin .eql (.tmp 21) (.const (.int .i64 46)))⟩,
                             ⟨(some 191), none, .p (.mv (.tmp 192))⟩])
                          (.cond (.tmp 191)
                           (.region [⟨(some 193), none, .p (.mv (.tmp 0))⟩,
                              ⟨(some 194), none, .p (.mv (.tmp 1))⟩,
                              ⟨(some 195), none, .p (.mv (.tmp 10))⟩,
                              ⟨(some 196), none, .p (.fieldA 1 (.tmp 8))⟩,
                              ⟨(some 197), none, .r1 (.tmp 196)⟩,
                              ⟨(some 198), none, .p (.idxSl 1 (.tmp 195) (.tmp 197))⟩,
                              ⟨(some 199), none, .r1 (.tmp 198)⟩,
                              ⟨(some 200), none, .p (.conv .i64 (.tmp 199))⟩,
                              ⟨(some 201), none, .w (.call 51 [(.tmp 193), (.tmp 194), (.tmp 200)])⟩])
                           (.seq
                            (.region [⟨(some 203), none, .p (.ibin .eql (.tmp 21) (.const (.int .i64 48)))⟩,
                               ⟨(some 202), none, .p (.mv (.tmp 203))⟩])
                            (.cond (.tmp 202)
                             (.seq
                              (.region [⟨(some 13), none, .p (.mv (.const (.int .i64 1)))⟩])
                              (.seq
                               (.seq
                                (.draw [⟨0, ⟨(some 204), none, .p (.mv (.tmp 0))⟩, []⟩,
                                   ⟨1, ⟨(some 205), none, .p (.nilck (.tmp 204))⟩, []⟩,
                                   ⟨2, ⟨(some 206), none, .p (.fieldA 0 (.tmp 205))⟩, []⟩,
                                   ⟨3, ⟨(some 207), none, .p (.fieldA 2 (.tmp 206))⟩, []⟩,
                                   ⟨4, ⟨(some 208), none, .r1 (.tmp 207)⟩, []⟩,
                                   ⟨5, ⟨(some 209), none, .p (.mv (.tmp 2))⟩, []⟩,
                                   ⟨6, ⟨(some 210), none, .p (.nilck (.tmp 209))⟩, []⟩,
                                   ⟨7, ⟨(some 211), none, .p (.fieldA 0 (.tmp 210))⟩, []⟩,
                                   ⟨8, ⟨(some 212), none, .r1 (.tmp 211)⟩, []⟩,
                                   ⟨9, ⟨(some 213), none, .p (.idxSl 4 (.tmp 208) (.tmp 212))⟩, []⟩,
                                   ⟨10, ⟨(some 214), none, .p (.fieldA 1 (.tmp 213))⟩, []⟩,
                                   ⟨11, ⟨(some 215), none, .r1 (.tmp 214)⟩, []⟩,
                                   ⟨12, ⟨(some 216), none, .p (.fieldA 1 (.tmp 8))⟩, []⟩,
                                   ⟨13, ⟨(some 217), none, .r1 (.tmp 216)⟩, []⟩,
                                   ⟨14, ⟨(some 218), none, .p (.idxSl 1 (.tmp 215) (.tmp 217))⟩, []⟩,
                                   ⟨15, ⟨(some 219), none, .r1 (.tmp 218)⟩, []⟩,
                                   ⟨16, ⟨(some 220), none, .p (.ibin .eql (.tmp 219) (.const (.int .i64 1)))⟩, []⟩])
                                (.cond (.tmp 220)
                                 (.region [⟨(some 13), none, .p (.mv (.const (.int .i64 2)))⟩])
                                 .skip))
                               (.region [⟨(some 221), none, .p (.mv (.tmp 0))⟩,
                                  ⟨(some 222), none, .p (.mv (.tmp 13))⟩,
                                  ⟨(some 223), none, .p (.mv (.tmp 10))⟩,
                                  ⟨(some 224), none, .p (.fieldA 1 (.tmp 8))⟩,
                                  ⟨(some 225), none, .r1 (.tmp 224)⟩,
                                  ⟨(some 226), none, .p (.idxSl 1 (.tmp 223) (.tmp 225))⟩,
                                  ⟨(some 227), none, .r1 (.tmp 226)⟩,
                                  ⟨(some 228), none, .w (.call 32 [(.tmp 221), (.tmp 222), (.tmp 227)])⟩])))
                             (.seq
                              (.region [⟨(some 230), none, .p (.ibin .eql (.tmp 21) (.const (.int .i64 49)))⟩,
                                 ⟨(some 229), none, .p (.mv (.tmp 230))⟩])
                              (.cond (.tmp 229)
                               (.draw [⟨0, ⟨(some 231), none, .p (.mv (.tmp 10))⟩, []⟩,
                                  ⟨1, ⟨(some 232), none, .p (.fieldA 1 (.tmp 8))⟩, []⟩,
                                  ⟨2, ⟨(some 233), none, .r1 (.tmp 232)⟩, []⟩,
                                  ⟨3, ⟨(some 234), none, .p (.mv (.tmp 2))⟩, []⟩,
                                  ⟨4, ⟨(some 235), none, .p (.nilck (.tmp 234))⟩, []⟩,
                                  ⟨5, ⟨(some 236), none, .p (.fieldA 2 (.tmp 235))⟩, []⟩,
                                  ⟨6, ⟨(some 237), none, .r1 (.tmp 236)⟩, []⟩,
                                  ⟨7, ⟨(some 238), none, .p (.ibin .mul (.tmp 237) (.const (.int .u64 64)))⟩, []⟩,
                                  ⟨8, ⟨(some 239), none, .p (.fieldA 2 (.tmp 8))⟩, []⟩,
                                  ⟨9, ⟨(some 240), none, .r1 (.tmp 239)⟩, []⟩,
                                  ⟨10, ⟨(some 241), none, .p (.conv .u64 (.tmp 240))⟩, []⟩,
                                  ⟨11, ⟨(some 242), none, .p (.ibin .add (.tmp 238) (.tmp 241))⟩, []⟩,
                                  ⟨12, ⟨(some 243), none, .p (.idxSl 1 (.tmp 231) (.tmp 233))⟩, []⟩,
                                  ⟨13, ⟨none, none, .w (.st1 (.tmp 243) (.tmp 242))⟩, []⟩])
                               (.seq
                                (.region [⟨(some 245), none, .p (.ibin .eql (.tmp 21) (.const (.int .i64 50)))⟩,
                                   ⟨(some 244), none, .p (.mv (.tmp 245))⟩])
                                (.cond (.tmp 244)
                                 (.seq
                                  (.region [⟨(some 246), none, .p (.mv (.tmp 1))⟩,
                                     ⟨(some 247), none, .p (.mv (.tmp 10))⟩,
                                     ⟨(some 248), none, .p (.fieldA 2 (.tmp 8))⟩,
                                     ⟨(some 249), none, .r1 (.tmp 248)⟩,
                                     ⟨(some 250), none, .p (.idxSl 1 (.tmp 247) (.tmp 249))⟩,
                                     ⟨(some 251), none, .r1 (.tmp 250)⟩,
                                     ⟨(some 252), none, .w (.call 52 [(.tmp 246), (.tmp 251)])⟩,
                                     ⟨(some 14), none, .p (.mv (.tmp 252))⟩])
                                  (.seq
                                   (.region [⟨(some 253), none, .p (.mv (.tmp 14))⟩,
                                      ⟨(some 254), none, .p (.eqp true (.tmp 253) (.const (.pointer none)))⟩])
                                   (.cond (.tmp 254)
                                    (.draw [⟨0, ⟨(some 255), none, .p (.mv (.tmp 10))⟩, []⟩,
                                       ⟨1, ⟨(some 256), none, .p (.fieldA 1 (.tmp 8))⟩, []⟩,
                                       ⟨2, ⟨(some 257), none, .r1 (.tmp 256)⟩, []⟩,
                                       ⟨3, ⟨(some 258), none, .p (.mv (.tmp 14))⟩, []⟩,
                                       ⟨4, ⟨(some 259), none, .p (.nilck (.tmp 258))⟩, []⟩,
                                       ⟨5, ⟨(some 260), none, .r1 (.tmp 259)⟩, []⟩,
                                       ⟨6, ⟨(some 261), none, .p (.idxSl 1 (.tmp 255) (.tmp 257))⟩, []⟩,
                                       ⟨7, ⟨none, none, .w (.st1 (.tmp 261) (.tmp 260))⟩, []⟩])
                                    (.region [⟨(some 262), none, .p (.mv (.tmp 0))⟩,
                                       ⟨(some 263), none, .w (.call 28 [(.tmp 262), (.const (.int .i64 (-1)))])⟩]))))
                                 (.seq
                                  (.region [⟨(some 265), none, .p (.ibin .eql (.tmp 21) (.const (.int .i64 51)))⟩,
                                     ⟨(some 264), none, .p (.mv (.tmp 265))⟩])
                                  (.cond (.tmp 264)
                                   (.seq
                                    (.region [⟨(some 266), none, .p (.mv (.tmp 1))⟩,
                                       ⟨(some 267), none, .p (.mv (.tmp 10))⟩,
                                       ⟨(some 268), none, .p (.fieldA 1 (.tmp 8))⟩,
                                       ⟨(some 269), none, .r1 (.tmp 268)⟩,
                                       ⟨(some 270), none, .p (.idxSl 1 (.tmp 267) (.tmp 269))⟩,
                                       ⟨(some 271), none, .r1 (.tmp 270)⟩,
                                       ⟨(some 272), none, .w (.call 52 [(.tmp 266), (.tmp 271)])⟩,
                                       ⟨(some 15), none, .p (.mv (.tmp 272))⟩])
                                    (.seq
                                     (.region [⟨(some 273), none, .p (.mv (.tmp 15))⟩,
                                        ⟨(some 274), none, .p (.eqp true (.tmp 273) (.const (.pointer none)))⟩])
                                     (.cond (.tmp 274)
                                      (.region [⟨(some 275), none, .p (.mv (.tmp 15))⟩,
                                         ⟨(some 276), none, .p (.mv (.tmp 10))⟩,
                                         ⟨(some 277), none, .p (.fieldA 2 (.tmp 8))⟩,
                                         ⟨(some 278), none, .r1 (.tmp 277)⟩,
                                         ⟨(some 279), none, .p (.idxSl 1 (.tmp 276) (.tmp 278))⟩,
                                         ⟨(some 280), none, .r1 (.tmp 279)⟩,
                                         ⟨(some 281), none, .p (.nilck (.tmp 275))⟩,
                                         ⟨none, none, .w (.st1 (.tmp 281) (.tmp 280))⟩])
                                      (.region [⟨(some 282), none, .p (.mv (.tmp 0))⟩,
                                         ⟨(some 283), none, .w (.call 28 [(.tmp 282), (.const (.int .i64 (-1)))])⟩]))))
                                   (.seq
                                    (.seq
                                     (.region [⟨(some 285), none, .p (.ibin .eql (.tmp 21) (.const (.int .i64 26)))⟩,
                                        ⟨(some 284), none, .p (.mv (.tmp 285))⟩])
                                     (.cond (.tmp 284)
                                      .skip
                                      (.seq
                                       (.region [⟨(some 286), none, .p (.ibin .eql (.tmp 21) (.const (.int .i64 27)))⟩,
                                          ⟨(some 284), none, .p (.mv (.tmp 286))⟩])
                                       (.cond (.tmp 284)
                                        .skip
                                        (.seq
                                         (.region [⟨(some 287), none, .p (.ibin .eql (.tmp 21) (.const (.int .i64 28)))⟩,
                                            ⟨(some 284), none, .p (.mv (.tmp 287))⟩])
                                         (.cond (.tmp 284)
                                          .skip
                                          (.seq
                                           (.region [⟨(some 288), none, .p (.ibin .eql (.tmp 21) (.const (.int .i64 29)))⟩,
                                              ⟨(some 284), none, .p (.mv (.tmp 288))⟩])
                                           (.cond (.tmp 284)
                                            .skip
                                            (.seq
                                             (.region [⟨(some 289), none, .p (.ibin .eql (.tmp 21) (.const (.int .i64 30)))⟩,
                                                ⟨(some 284), none, .p (.mv (.tmp 289))⟩])
                                             (.cond (.tmp 284)
                                              .skip
                                              (.seq
                                               (.region [⟨(some 290), none, .p (.ibin .eql (.tmp 21) (.const (.int .i64 31)))⟩,
                                                  ⟨(some 284), none, .p (.mv (.tmp 290))⟩])
                                               (.cond (.tmp 284)
                                                .skip
                                                (.seq
                                                 (.region [⟨(some 291), none, .p (.ibin .eql (.tmp 21) (.const (.int .i64 32)))⟩,
                                                    ⟨(some 284), none, .p (.mv (.tmp 291))⟩])
                                                 (.cond (.tmp 284)
                                                  .skip
                                                  (.seq
                                                   (.region [⟨(some 292), none, .p (.ibin .eql (.tmp 21) (.const (.int .i64 33)))⟩,
                                                      ⟨(some 284), none, .p (.mv (.tmp 292))⟩])
                                                   (.cond (.tmp 284)
                                                    .skip
                                                    (.region [⟨(some 293), none, .p (.ibin .eql (.tmp 21) (.const (.int .i64 34)))⟩,
                                                       ⟨(some 284), none, .p (.mv (.tmp 293))⟩])))))))))))))))))
                                    (.cond (.tmp 284)
                                     (.region [⟨(some 294), none, .p (.mv (.tmp 0))⟩,
                                        ⟨(some 295), none, .p (.mv (.tmp 10))⟩,
                                        ⟨(some 296), none, .rN 6 (.tmp 8)⟩,
                                        ⟨(some 297), none, .w (.call 53 [(.tmp 294), (.tmp 295), (.tmp 296)])⟩])
                                     (.seq
                                      (.seq
                                       (.region [⟨(some 299), none, .p (.ibin .eql (.tmp 21) (.const (.int .i64 35)))⟩,
                                          ⟨(some 298), none, .p (.mv (.tmp 299))⟩])
                                       (.cond (.tmp 298)
                                        .skip
                                        (.seq
                                         (.region [⟨(some 300), none, .p (.ibin .eql (.tmp 21) (.const (.int .i64 36)))⟩,
                                            ⟨(some 298), none, .p (.mv (.tmp 300))⟩])
                                         (.cond (.tmp 298)
                                          .skip
                                          (.seq
                                           (.region [⟨(some 301), none, .p (.ibin .eql (.tmp 21) (.const (.int .i64 37)))⟩,
                                              ⟨(some 298), none, .p (.mv (.tmp 301))⟩])
                                           (.cond (.tmp 298)
                                            .skip
                                            (.seq
                                             (.region [⟨(some 302), none, .p (.ibin .eql (.tmp 21) (.const (.int .i64 38)))⟩,
                                                ⟨(some 298), none, .p (.mv (.tmp 302))⟩])
                                             (.cond (.tmp 298)
                                              .skip
                                              (.seq
                                               (.region [⟨(some 303), none, .p (.ibin .eql (.tmp 21) (.const (.int .i64 39)))⟩,
                                                  ⟨(some 298), none, .p (.mv (.tmp 303))⟩])
                                               (.cond (.tmp 298)
                                                .skip
                                                (.region [⟨(some 304), none, .p (.ibin .eql (.tmp 21) (.const (.int .i64 40)))⟩,
                                                   ⟨(some 298), none, .p (.mv (.tmp 304))⟩])))))))))))
                                      (.cond (.tmp 298)
                                       (.region [⟨(some 305), none, .p (.mv (.tmp 0))⟩,
                                          ⟨(some 306), none, .p (.mv (.tmp 1))⟩,
                                          ⟨(some 307), none, .p (.mv (.tmp 2))⟩,
                                          ⟨(some 308), none, .rN 6 (.tmp 8)⟩,
                                          ⟨(some 309), none, .w (.call 54 [(.tmp 305), (.tmp 306), (.tmp 307), (.tmp 308)])⟩])
                                       (.region [⟨(some 22), none, .p (.mv (.tmp 0))⟩,
                                          ⟨(some 23), none, .p (.mv (.tmp 1))⟩,
                                          ⟨(some 24), none, .p (.mv (.tmp 2))⟩,
                                          ⟨(some 25), none, .rN 6 (.tmp 8)⟩,
                                          ⟨(some 26), none, .p (.mv (.tmp 4))⟩,
                                          ⟨(some 27), none, .w (.call 55 [(.tmp 22), (.tmp 23), (.tmp 24), (.tmp 25), (.tmp 26)])⟩]))))))))))))))))))))))))))))))))))))))), []⟩
theorem comp30 : compFunc Try.prog 30 = some a30 := by kernel_rfl
theorem callable30 : callable Try.prog 30 = true := by kernel_rfl

/-- (*treadle/ideal.Ideal).tell -/
def a32 : AFunc := ⟨3, (.seq
  (.seq
   (.region [⟨(some 6), none, .p (.mv (.tmp 1))⟩,
      ⟨(some 7), none, .p (.ibin .leq (.tmp 6) (.const (.int .i64 2)))⟩,
      ⟨(some 8), none, .p (.mv (.tmp 7))⟩,
      ⟨(some 9), (some (8, true)), .p (.mv (.tmp 0))⟩,
      ⟨(some 10), (some (8, true)), .p (.nilck (.tmp 9))⟩,
      ⟨(some 11), (some (8, true)), .p (.fieldA 7 (.tmp 10))⟩,
      ⟨(some 12), (some (8, true)), .r1 (.tmp 11)⟩,
      ⟨(some 13), (some (8, true)), .p (.len false (.tmp 12))⟩,
      ⟨(some 14), (some (8, true)), .p (.ibin .eql (.tmp 13) (.const (.int .i64 4095)))⟩,
      ⟨(some 15), none, .p (.pick (.tmp 8) (.tmp 14) (.const (.bool false)))⟩])
   (.cond (.tmp 15)
    (.region [⟨(some 1), none, .p (.mv (.const (.int .i64 7)))⟩,
       ⟨(some 2), none, .p (.mv (.const (.int .u64 0)))⟩])
    .skip))
  (.seq
   (.draw [⟨0, ⟨(some 16), none, .p (.mv (.tmp 0))⟩, []⟩,
      ⟨1, ⟨(some 17), none, .p (.mv (.tmp 0))⟩, []⟩,
      ⟨2, ⟨(some 18), none, .p (.nilck (.tmp 17))⟩, []⟩,
      ⟨3, ⟨(some 19), none, .p (.fieldA 7 (.tmp 18))⟩, []⟩,
      ⟨4, ⟨(some 20), none, .r1 (.tmp 19)⟩, []⟩,
      ⟨5, ⟨(some 21), none, .p (.mv (.tmp 1))⟩, []⟩,
      ⟨6, ⟨(some 22), none, .p (.mv (.tmp 0))⟩, []⟩,
      ⟨7, ⟨(some 23), none, .p (.nilck (.tmp 22))⟩, []⟩,
      ⟨8, ⟨(some 24), none, .p (.fieldA 9 (.tmp 23))⟩, []⟩,
      ⟨9, ⟨(some 25), none, .r1 (.tmp 24)⟩, []⟩,
      ⟨10, ⟨(some 26), none, .p (.mv (.tmp 2))⟩, []⟩,
      ⟨11, ⟨(some 27), none, .p (.build [.int .i64 0, .int .i64 0, .int .u64 0] [(0, 1, (.tmp 21)), (1, 1, (.tmp 25)), (2, 1, (.tmp 26))])⟩, []⟩,
      ⟨12, ⟨(some 28), none, .w (.bslice 50 1 [.int .i64 0, .int .i64 0, .int .u64 0] [(0, 3, (.tmp 27))])⟩, []⟩,
      ⟨13, ⟨(some 29), none, .w (.app 50 24 [.int .i64 0, .int .i64 0, .int .u64 0] (.tmp 20) (.tmp 28))⟩, []⟩,
      ⟨14, ⟨(some 30), none, .p (.nilck (.tmp 16))⟩, []⟩,
      ⟨15, ⟨(some 31), none, .p (.fieldA 7 (.tmp 30))⟩, []⟩,
      ⟨16, ⟨none, none, .w (.st1 (.tmp 31) (.tmp 29))⟩, []⟩])
   (.region [⟨(some 32), none, .p (.mv (.tmp 0))⟩,
      ⟨(some 33), none, .p (.mv (.tmp 1))⟩,
      ⟨(some 34), none, .p (.ibin .gtr (.tmp 33) (.const (.int .i64 2)))⟩,
      ⟨(some 35), none, .p (.nilck (.tmp 32))⟩,
      ⟨(some 36), none, .p (.fieldA 8 (.tmp 35))⟩,
      ⟨none, none, .w (.st1 (.tmp 36) (.tmp 34))⟩]))), []⟩
theorem comp32 : compFunc Try.prog 32 = some a32 := by kernel_rfl
theorem callable32 : callable Try.prog 32 = true := by kernel_rfl

/-- treadle/flo.of -/
def a34 : AFunc := ⟨1, (.seq
  (.region [⟨(some 2), none, .p (.mv (.const (.float .f64 0)))⟩])
  (.seq
   (.region [⟨(some 3), none, .p (.mv (.tmp 0))⟩,
      ⟨(some 4), none, .w (.ext .fof [(.tmp 3)])⟩,
      ⟨(some 2), none, .p (.mv (.tmp 4))⟩])
   .ret)), [.tmp 2]⟩
theorem comp34 : compFunc Try.prog 34 = some a34 := by kernel_rfl
theorem callable34 : callable Try.prog 34 = true := by kernel_rfl

/-- (*treadle/ideal.Ideal).Reach$1 -/
def a36 : AFunc := ⟨4, (.seq
  (.region [⟨(some 6), none, .p (.mv (.tmp 0))⟩,
     ⟨(some 7), none, .w (.call 37 [(.tmp 6)])⟩,
     ⟨(some 8), none, .p (.mv (.tmp 7))⟩,
     ⟨(some 9), (some (8, true)), .p (.mv (.tmp 1))⟩,
     ⟨(some 10), (some (8, true)), .p (.ibin .neq (.tmp 9) (.const (.int .u64 0)))⟩,
     ⟨(some 11), none, .p (.pick (.tmp 8) (.tmp 10) (.const (.bool false)))⟩,
     ⟨(some 12), none, .p (.mv (.tmp 11))⟩,
     ⟨(some 13), (some (12, true)), .r1 (.tmp 2)⟩,
     ⟨(some 14), (some (12, true)), .p (.mv (.tmp 1))⟩,
     ⟨(some 15), (some (12, true)), .p (.idxSl 1 (.tmp 13) (.tmp 14))⟩,
     ⟨(some 16), (some (12, true)), .r1 (.tmp 15)⟩,
     ⟨(some 17), (some (12, true)), .p (.not (.tmp 16))⟩,
     ⟨(some 18), none, .p (.pick (.tmp 12) (.tmp 17) (.const (.bool false)))⟩])
  (.cond (.tmp 18)
   (.seq
    (.region [⟨(some 19), none, .r1 (.tmp 2)⟩,
       ⟨(some 20), none, .p (.mv (.tmp 1))⟩,
       ⟨(some 21), none, .p (.idxSl 1 (.tmp 19) (.tmp 20))⟩,
       ⟨none, none, .w (.st1 (.tmp 21) (.const (.bool true)))⟩])
    (.region [⟨(some 22), none, .r1 (.tmp 3)⟩,
       ⟨(some 23), none, .p (.mv (.tmp 1))⟩,
       ⟨(some 24), none, .w (.bslice 35 1 [.int .u64 0] [(0, 1, (.tmp 23))])⟩,
       ⟨(some 25), none, .w (.app 35 8 [.int .u64 0] (.tmp 22) (.tmp 24))⟩,
       ⟨none, none, .w (.st1 (.tmp 3) (.tmp 25))⟩]))
   .skip)), []⟩
theorem comp36 : compFunc Try.prog 36 = some a36 := by kernel_rfl
theorem callable36 : callable Try.prog 36 = true := by kernel_rfl

/-- (*treadle/ideal.Ideal).roots -/
def a38 : AFunc := ⟨2, (.seq
  (.seq
   (.region [⟨(some 19), none, .p (.mv (.tmp 0))⟩,
      ⟨(some 20), none, .p (.nilck (.tmp 19))⟩,
      ⟨(some 21), none, .p (.fieldA 3 (.tmp 20))⟩,
      ⟨(some 22), none, .r1 (.tmp 21)⟩,
      ⟨(some 23), none, .p (.len false (.tmp 22))⟩,
      ⟨(some 24), none, .p (.mv (.const (.int .i64 0)))⟩])
   (.block 0
    (.loop
     (.seq
      (.region [⟨(some 25), none, .p (.ibin .lss (.tmp 24) (.tmp 23))⟩])
      (.seq
       (.cond (.tmp 25)
        .skip
        (.exit 0))
       (.seq
        (.block 1
         (.seq
          (.region [⟨(some 26), none, .p (.mv (.tmp 24))⟩,
             ⟨(some 27), none, .p (.idxSl 1 (.tmp 22) (.tmp 24))⟩,
             ⟨(some 28), none, .r1 (.tmp 27)⟩,
             ⟨(some 4), none, .p (.mv (.tmp 26))⟩,
             ⟨(some 5), none, .p (.mv (.tmp 28))⟩])
          (.region [⟨(some 29), none, .p (.mv (.tmp 1))⟩,
             ⟨(some 30), none, .p (.mv (.tmp 0))⟩,
             ⟨(some 31), none, .p (.nilck (.tmp 30))⟩,
             ⟨(some 32), none, .p (.fieldA 0 (.tmp 31))⟩,
             ⟨(some 33), none, .p (.fieldA 1 (.tmp 32))⟩,
             ⟨(some 34), none, .r1 (.tmp 33)⟩,
             ⟨(some 35), none, .p (.mv (.tmp 4))⟩,
             ⟨(some 36), none, .p (.idxSl 1 (.tmp 34) (.tmp 35))⟩,
             ⟨(some 37), none, .r1 (.tmp 36)⟩,
             ⟨(some 38), none, .p (.mv (.tmp 5))⟩,
             ⟨(some 39), none, .w (.callv (.tmp 29) [(.tmp 37), (.tmp 38)])⟩])))
        (.region [⟨(some 40), none, .p (.ibin .add (.tmp 24) (.const (.int .i64 1)))⟩,
           ⟨(some 24), none, .p (.mv (.tmp 40))⟩])))))))
  (.seq
   (.region [⟨(some 41), none, .p (.mv (.tmp 0))⟩,
      ⟨(some 42), none, .p (.nilck (.tmp 41))⟩,
      ⟨(some 43), none, .p (.fieldA 5 (.tmp 42))⟩,
      ⟨(some 44), none, .r1 (.tmp 43)⟩,
      ⟨(some 45), none, .p (.len false (.tmp 44))⟩,
      ⟨(some 46), none, .p (.mv (.const (.int .i64 0)))⟩])
   (.block 2
    (.loop
     (.seq
      (.region [⟨(some 47), none, .p (.ibin .lss (.tmp 46) (.tmp 45))⟩])
      (.seq
       (.cond (.tmp 47)
        .skip
        (.exit 2))
       (.seq
        (.block 3
         (.seq
          (.region [⟨(some 48), none, .p (.idxSl 1 (.tmp 44) (.tmp 46))⟩,
             ⟨(some 49), none, .r1 (.tmp 48)⟩,
             ⟨(some 7), none, .p (.mv (.tmp 49))⟩])
          (.seq
           (.region [⟨(some 50), none, .p (.mv (.tmp 7))⟩,
              ⟨(some 51), none, .p (.nilck (.tmp 50))⟩,
              ⟨(some 52), none, .p (.fieldA 3 (.tmp 51))⟩,
              ⟨(some 53), none, .r1 (.tmp 52)⟩,
              ⟨(some 54), none, .p (.len false (.tmp 53))⟩,
              ⟨(some 55), none, .p (.mv (.const (.int .i64 0)))⟩])
           (.block 4
            (.loop
             (.seq
              (.region [⟨(some 56), none, .p (.ibin .lss (.tmp 55) (.tmp 54))⟩])
              (.seq
               (.cond (.tmp 56)
                .skip
                (.exit 4))
               (.seq
                (.block 5
                 (.seq
                  (.region [⟨(some 57), none, .p (.idxSl 1 (.tmp 53) (.tmp 55))⟩,
                     ⟨(some 58), none, .r1 (.tmp 57)⟩,
                     ⟨(some 9), none, .p (.mv (.tmp 58))⟩])
                  (.seq
                   (.draw [⟨0, ⟨(some 59), none, .p (.mv (.tmp 0))⟩, []⟩,
                      ⟨1, ⟨(some 60), none, .p (.nilck (.tmp 59))⟩, []⟩,
                      ⟨2, ⟨(some 61), none, .p (.fieldA 0 (.tmp 60))⟩, []⟩,
                      ⟨3, ⟨(some 62), none, .p (.fieldA 2 (.tmp 61))⟩, []⟩,
                      ⟨4, ⟨(some 63), none, .r1 (.tmp 62)⟩, []⟩,
                      ⟨5, ⟨(some 64), none, .p (.mv (.tmp 9))⟩, []⟩,
                      ⟨6, ⟨(some 65), none, .p (.nilck (.tmp 64))⟩, []⟩,
                      ⟨7, ⟨(some 66), none, .p (.fieldA 0 (.tmp 65))⟩, []⟩,
                      ⟨8, ⟨(some 67), none, .r1 (.tmp 66)⟩, []⟩,
                      ⟨9, ⟨(some 68), none, .p (.idxSl 4 (.tmp 63) (.tmp 67))⟩, []⟩,
                      ⟨10, ⟨(some 69), none, .rN 4 (.tmp 68)⟩, []⟩,
                      ⟨11, ⟨(some 10), none, .w (.alloc 64 [.int .i64 0, .slice none 0 0, .slice none 0 0, .slice none 0 0])⟩, []⟩,
                      ⟨12, ⟨none, none, .w (.stN 4 (.tmp 10) (.tmp 69))⟩, []⟩])
                   (.seq
                    (.seq
                     (.region [⟨(some 70), none, .p (.mv (.tmp 9))⟩,
                        ⟨(some 71), none, .p (.nilck (.tmp 70))⟩,
                        ⟨(some 72), none, .p (.fieldA 3 (.tmp 71))⟩,
                        ⟨(some 73), none, .r1 (.tmp 72)⟩,
                        ⟨(some 74), none, .p (.len false (.tmp 73))⟩,
                        ⟨(some 75), none, .p (.mv (.const (.int .i64 0)))⟩])
                     (.block 6
                      (.loop
                       (.seq
                        (.region [⟨(some 76), none, .p (.ibin .lss (.tmp 75) (.tmp 74))⟩])
                        (.seq
                         (.cond (.tmp 76)
                          .skip
                          (.exit 6))
                         (.seq
                          (.block 7
                           (.seq
                            (.region [⟨(some 77), none, .p (.mv (.tmp 75))⟩,
                               ⟨(some 78), none, .p (.idxSl 1 (.tmp 73) (.tmp 75))⟩,
                               ⟨(some 79), none, .r1 (.tmp 78)⟩,
                               ⟨(some 11), none, .p (.mv (.tmp 77))⟩,
                               ⟨(some 12), none, .p (.mv (.tmp 79))⟩])
                            (.region [⟨(some 80), none, .p (.mv (.tmp 1))⟩,
                               ⟨(some 81), none, .p (.fieldA 1 (.tmp 10))⟩,
                               ⟨(some 82), none, .r1 (.tmp 81)⟩,
                               ⟨(some 83), none, .p (.mv (.tmp 11))⟩,
                               ⟨(some 84), none, .p (.idxSl 1 (.tmp 82) (.tmp 83))⟩,
                               ⟨(some 85), none, .r1 (.tmp 84)⟩,
                               ⟨(some 86), none, .p (.mv (.tmp 12))⟩,
                               ⟨(some 87), none, .w (.callv (.tmp 80) [(.tmp 85), (.tmp 86)])⟩])))
                          (.region [⟨(some 88), none, .p (.ibin .add (.tmp 75) (.const (.int .i64 1)))⟩,
                             ⟨(some 75), none, .p (.mv (.tmp 88))⟩])))))))
                    (.seq
                     (.seq
                      (.region [⟨(some 89), none, .p (.mv (.tmp 9))⟩,
                         ⟨(some 90), none, .p (.nilck (.tmp 89))⟩,
                         ⟨(some 91), none, .p (.fieldA 8 (.tmp 90))⟩,
                         ⟨(some 92), none, .r1 (.tmp 91)⟩,
                         ⟨(some 93), none, .p (.len false (.tmp 92))⟩,
                         ⟨(some 94), none, .p (.mv (.const (.int .i64 0)))⟩])
                      (.block 8
                       (.loop
                        (.seq
                         (.region [⟨(some 95), none, .p (.ibin .lss (.tmp 94) (.tmp 93))⟩])
                         (.seq
                          (.cond (.tmp 95)
                           .skip
                           (.exit 8))
                          (.seq
                           (.block 9
                            (.seq
                             (.region [⟨(some 96), none, .p (.mv (.tmp 94))⟩,
                                ⟨(some 97), none, .p (.idxSl 1 (.tmp 92) (.tmp 94))⟩,
                                ⟨(some 98), none, .r1 (.tmp 97)⟩,
                                ⟨(some 13), none, .p (.mv (.tmp 96))⟩,
                                ⟨(some 14), none, .p (.mv (.tmp 98))⟩])
                             (.region [⟨(some 99), none, .p (.mv (.tmp 1))⟩,
                                ⟨(some 100), none, .p (.fieldA 2 (.tmp 10))⟩,
                                ⟨(some 101), none, .r1 (.tmp 100)⟩,
                                ⟨(some 102), none, .p (.mv (.tmp 13))⟩,
                                ⟨(some 103), none, .p (.idxSl 1 (.tmp 101) (.tmp 102))⟩,
                                ⟨(some 104), none, .r1 (.tmp 103)⟩,
                                ⟨(some 105), none, .p (.mv (.tmp 14))⟩,
                                ⟨(some 106), none, .w (.callv (.tmp 99) [(.tmp 104), (.tmp 105)])⟩])))
                           (.region [⟨(some 107), none, .p (.ibin .add (.tmp 94) (.const (.int .i64 1)))⟩,
                              ⟨(some 94), none, .p (.mv (.tmp 107))⟩])))))))
                     (.seq
                      (.region [⟨(some 108), none, .p (.mv (.tmp 9))⟩,
                         ⟨(some 109), none, .p (.nilck (.tmp 108))⟩,
                         ⟨(some 110), none, .p (.fieldA 5 (.tmp 109))⟩,
                         ⟨(some 111), none, .r1 (.tmp 110)⟩,
                         ⟨(some 112), none, .p (.len false (.tmp 111))⟩,
                         ⟨(some 113), none, .p (.mv (.const (.int .i64 0)))⟩])
                      (.block 10
                       (.loop
                        (.seq
                         (.region [⟨(some 114), none, .p (.ibin .lss (.tmp 113) (.tmp 112))⟩])
                         (.seq
                          (.cond (.tmp 114)
                           .skip
                           (.exit 10))
                          (.seq
                           (.block 11
                            (.seq
                             (.region [⟨(some 115), none, .p (.idxSl 2 (.tmp 111) (.tmp 113))⟩,
                                ⟨(some 116), none, .rN 2 (.tmp 115)⟩,
                                ⟨(some 16), none, .w (.alloc 123 [.int .i64 0, .slice none 0 0])⟩,
                                ⟨none, none, .w (.stN 2 (.tmp 16) (.tmp 116))⟩])
                             (.seq
                              (.region [⟨(some 117), none, .p (.fieldA 1 (.tmp 16))⟩,
                                 ⟨(some 118), none, .r1 (.tmp 117)⟩,
                                 ⟨(some 119), none, .p (.len false (.tmp 118))⟩,
                                 ⟨(some 120), none, .p (.mv (.const (.int .i64 0)))⟩])
                              (.block 12
                               (.loop
                                (.seq
                                 (.region [⟨(some 121), none, .p (.ibin .lss (.tmp 120) (.tmp 119))⟩])
                                 (.seq
                                  (.cond (.tmp 121)
                                   .skip
                                   (.exit 12))
                                  (.seq
                                   (.block 13
                                    (.seq
                                     (.region [⟨(some 122), none, .p (.mv (.tmp 120))⟩,
                                        ⟨(some 123), none, .p (.idxSl 1 (.tmp 118) (.tmp 120))⟩,
                                        ⟨(some 124), none, .r1 (.tmp 123)⟩,
                                        ⟨(some 17), none, .p (.mv (.tmp 122))⟩,
                                        ⟨(some 18), none, .p (.mv (.tmp 124))⟩])
                                     (.draw [⟨0, ⟨(some 125), none, .p (.mv (.tmp 1))⟩, []⟩,
                                        ⟨1, ⟨(some 126), none, .p (.mv (.tmp 0))⟩, []⟩,
                                        ⟨2, ⟨(some 127), none, .p (.nilck (.tmp 126))⟩, []⟩,
                                        ⟨3, ⟨(some 128), none, .p (.fieldA 0 (.tmp 127))⟩, []⟩,
                                        ⟨4, ⟨(some 129), none, .p (.fieldA 2 (.tmp 128))⟩, []⟩,
                                        ⟨5, ⟨(some 130), none, .r1 (.tmp 129)⟩, []⟩,
                                        ⟨6, ⟨(some 131), none, .p (.fieldA 0 (.tmp 16))⟩, []⟩,
                                        ⟨7, ⟨(some 132), none, .r1 (.tmp 131)⟩, []⟩,
                                        ⟨8, ⟨(some 133), none, .p (.idxSl 4 (.tmp 130) (.tmp 132))⟩, []⟩,
                                        ⟨9, ⟨(some 134), none, .p (.fieldA 1 (.tmp 133))⟩, []⟩,
                                        ⟨10, ⟨(some 135), none, .r1 (.tmp 134)⟩, []⟩,
                                        ⟨11, ⟨(some 136), none, .p (.mv (.tmp 17))⟩, []⟩,
                                        ⟨12, ⟨(some 137), none, .p (.idxSl 1 (.tmp 135) (.tmp 136))⟩, []⟩,
                                        ⟨13, ⟨(some 138), none, .r1 (.tmp 137)⟩, []⟩,
                                        ⟨14, ⟨(some 139), none, .p (.mv (.tmp 18))⟩, []⟩,
                                        ⟨15, ⟨(some 140), none, .w (.callv (.tmp 125) [(.tmp 138), (.tmp 139)])⟩, []⟩])))
                                   (.region [⟨(some 141), none, .p (.ibin .add (.tmp 120) (.const (.int .i64 1)))⟩,
                                      ⟨(some 120), none, .p (.mv (.tmp 141))⟩])))))))))
                           (.region [⟨(some 142), none, .p (.ibin .add (.tmp 113) (.const (.int .i64 1)))⟩,
                              ⟨(some 113), none, .p (.mv (.tmp 142))⟩]))))))))))))
                (.region [⟨(some 143), none, .p (.ibin .add (.tmp 55) (.const (.int .i64 1)))⟩,
                   ⟨(some 55), none, .p (.mv (.tmp 143))⟩])))))))))
        (.region [⟨(some 144), none, .p (.ibin .add (.tmp 46) (.const (.int .i64 1)))⟩,
           ⟨(some 46), none, .p (.mv (.tmp 144))⟩])))))))), []⟩
theorem comp38 : compFunc Try.prog 38 = some a38 := by kernel_rfl
theorem callable38 : callable Try.prog 38 = true := by kernel_rfl

/-- (*treadle/ideal.Ideal).fields -/
def a40 : AFunc := ⟨3, (.seq
  (.region [⟨(some 4), none, .w (.box 99 (.tmp 1))⟩])
  (.seq
   (.seq
    (.region [⟨(some 11), none, .p (.fieldA 2 (.tmp 4))⟩,
       ⟨(some 12), none, .r1 (.tmp 11)⟩,
       ⟨(some 13), none, .p (.eqp true (.tmp 12) (.const (.pointer none)))⟩])
    (.cond (.tmp 13)
     (.seq
      (.seq
       (.region [⟨(some 14), none, .p (.fieldA 2 (.tmp 4))⟩,
          ⟨(some 15), none, .r1 (.tmp 14)⟩,
          ⟨(some 16), none, .w (.call 58 [(.tmp 15)])⟩,
          ⟨(some 17), none, .p (.len false (.tmp 16))⟩,
          ⟨(some 18), none, .p (.mv (.const (.int .i64 0)))⟩])
       (.block 0
        (.loop
         (.seq
          (.region [⟨(some 19), none, .p (.ibin .lss (.tmp 18) (.tmp 17))⟩])
          (.seq
           (.cond (.tmp 19)
            .skip
            (.exit 0))
           (.seq
            (.block 1
             (.seq
              (.region [⟨(some 20), none, .p (.idxSl 1 (.tmp 16) (.tmp 18))⟩,
                 ⟨(some 21), none, .r1 (.tmp 20)⟩,
                 ⟨(some 7), none, .p (.mv (.tmp 21))⟩])
              (.region [⟨(some 22), none, .p (.mv (.tmp 2))⟩,
                 ⟨(some 23), none, .p (.fieldA 0 (.tmp 4))⟩,
                 ⟨(some 24), none, .r1 (.tmp 23)⟩,
                 ⟨(some 25), none, .p (.ibin .sub (.tmp 24) (.const (.int .i64 64)))⟩,
                 ⟨(some 26), none, .p (.mv (.tmp 7))⟩,
                 ⟨(some 27), none, .w (.callv (.tmp 22) [(.tmp 25), (.tmp 26)])⟩])))
            (.region [⟨(some 28), none, .p (.ibin .add (.tmp 18) (.const (.int .i64 1)))⟩,
               ⟨(some 18), none, .p (.mv (.tmp 28))⟩])))))))
      .ret)
     .skip))
   (.seq
    (.draw [⟨0, ⟨(some 29), none, .p (.mv (.tmp 0))⟩, []⟩,
       ⟨1, ⟨(some 30), none, .p (.nilck (.tmp 29))⟩, []⟩,
       ⟨2, ⟨(some 31), none, .p (.fieldA 0 (.tmp 30))⟩, []⟩,
       ⟨3, ⟨(some 32), none, .p (.fieldA 0 (.tmp 31))⟩, []⟩,
       ⟨4, ⟨(some 33), none, .r1 (.tmp 32)⟩, []⟩,
       ⟨5, ⟨(some 34), none, .p (.fieldA 0 (.tmp 4))⟩, []⟩,
       ⟨6, ⟨(some 35), none, .r1 (.tmp 34)⟩, []⟩,
       ⟨7, ⟨(some 36), none, .p (.ibin .sub (.tmp 35) (.const (.int .i64 16)))⟩, []⟩,
       ⟨8, ⟨(some 37), none, .p (.idxSl 2 (.tmp 33) (.tmp 36))⟩, []⟩,
       ⟨9, ⟨(some 38), none, .rN 2 (.tmp 37)⟩, []⟩,
       ⟨10, ⟨(some 8), none, .w (.alloc 61 [.bool false, .slice none 0 0])⟩, []⟩,
       ⟨11, ⟨none, none, .w (.stN 2 (.tmp 8) (.tmp 38))⟩, []⟩])
    (.seq
     (.region [⟨(some 39), none, .p (.fieldA 1 (.tmp 4))⟩,
        ⟨(some 40), none, .r1 (.tmp 39)⟩,
        ⟨(some 41), none, .p (.len false (.tmp 40))⟩,
        ⟨(some 42), none, .p (.mv (.const (.int .i64 0)))⟩])
     (.block 2
      (.loop
       (.seq
        (.region [⟨(some 43), none, .p (.ibin .lss (.tmp 42) (.tmp 41))⟩])
        (.seq
         (.cond (.tmp 43)
          .skip
          (.exit 2))
         (.seq
          (.block 3
           (.seq
            (.region [⟨(some 44), none, .p (.mv (.tmp 42))⟩,
               ⟨(some 45), none, .p (.idxSl 1 (.tmp 40) (.tmp 42))⟩,
               ⟨(some 46), none, .r1 (.tmp 45)⟩,
               ⟨(some 9), none, .p (.mv (.tmp 44))⟩,
               ⟨(some 10), none, .p (.mv (.tmp 46))⟩])
            (.seq
             (.seq
              (.region [⟨(some 47), none, .p (.fieldA 0 (.tmp 8))⟩,
                 ⟨(some 48), none, .r1 (.tmp 47)⟩])
              (.cond (.tmp 48)
               (.region [⟨(some 9), none, .p (.mv (.const (.int .i64 0)))⟩])
               .skip))
             (.region [⟨(some 49), none, .p (.mv (.tmp 2))⟩,
                ⟨(some 50), none, .p (.fieldA 1 (.tmp 8))⟩,
                ⟨(some 51), none, .r1 (.tmp 50)⟩,
                ⟨(some 52), none, .p (.mv (.tmp 9))⟩,
                ⟨(some 53), none, .p (.idxSl 1 (.tmp 51) (.tmp 52))⟩,
                ⟨(some 54), none, .r1 (.tmp 53)⟩,
                ⟨(some 55), none, .p (.mv (.tmp 10))⟩,
                ⟨(some 56), none, .w (.callv (.tmp 49) [(.tmp 54), (.tmp 55)])⟩]))))
          (.region [⟨(some 57), none, .p (.ibin .add (.tmp 42) (.const (.int .i64 1)))⟩,
             ⟨(some 42), none, .p (.mv (.tmp 57))⟩])))))))))), []⟩
theorem comp40 : compFunc Try.prog 40 = some a40 := by kernel_rfl
theorem callable40 : callable Try.prog 40 = true := by kernel_rfl

/-- (*treadle/verify.checker).head -/
def a42 : AFunc := ⟨2, (.seq
  (.region [⟨(some 4), none, .p (.mv (.const (.int .i64 0)))⟩])
  (.seq
   (.region [⟨(some 10), none, .p (.mv (.tmp 0))⟩,
      ⟨(some 11), none, .p (.nilck (.tmp 10))⟩,
      ⟨(some 12), none, .p (.fieldA 3 (.tmp 11))⟩,
      ⟨(some 13), none, .rN 4 (.tmp 12)⟩,
      ⟨(some 5), none, .w (.alloc 64 [.int .i64 0, .slice none 0 0, .slice none 0 0, .slice none 0 0])⟩,
      ⟨none, none, .w (.stN 4 (.tmp 5) (.tmp 13))⟩])
   (.seq
    (.seq
     (.region [⟨(some 14), none, .p (.fieldA 1 (.tmp 5))⟩,
        ⟨(some 15), none, .r1 (.tmp 14)⟩,
        ⟨(some 16), none, .p (.len false (.tmp 15))⟩,
        ⟨(some 17), none, .p (.ibin .gtr (.tmp 16) (.const (.int .i64 32)))⟩,
        ⟨(some 18), none, .p (.mv (.tmp 17))⟩,
        ⟨(some 19), (some (18, false)), .p (.fieldA 2 (.tmp 5))⟩,
        ⟨(some 20), (some (18, false)), .r1 (.tmp 19)⟩,
        ⟨(some 21), (some (18, false)), .p (.len false (.tmp 20))⟩,
        ⟨(some 22), (some (18, false)), .p (.ibin .gtr (.tmp 21) (.const (.int .i64 32)))⟩,
        ⟨(some 23), none, .p (.pick (.tmp 18) (.const (.bool true)) (.tmp 22))⟩,
        ⟨(some 24), none, .p (.mv (.tmp 23))⟩,
        ⟨(some 25), (some (24, false)), .p (.fieldA 3 (.tmp 5))⟩,
        ⟨(some 26), (some (24, false)), .r1 (.tmp 25)⟩,
        ⟨(some 27), (some (24, false)), .p (.len false (.tmp 26))⟩,
        ⟨(some 28), (some (24, false)), .p (.ibin .gtr (.tmp 27) (.const (.int .i64 256)))⟩,
        ⟨(some 29), none, .p (.pick (.tmp 24) (.const (.bool true)) (.tmp 28))⟩,
        ⟨(some 30), none, .p (.mv (.tmp 29))⟩,
        ⟨(some 31), (some (30, false)), .p (.fieldA 0 (.tmp 5))⟩,
        ⟨(some 32), (some (30, false)), .r1 (.tmp 31)⟩,
        ⟨(some 33), (some (30, false)), .p (.ibin .lss (.tmp 32) (.const (.int .i64 0)))⟩,
        ⟨(some 34), none, .p (.pick (.tmp 30) (.const (.bool true)) (.tmp 33))⟩,
        ⟨(some 35), none, .p (.mv (.tmp 34))⟩,
        ⟨(some 36), (some (35, false)), .p (.fieldA 0 (.tmp 5))⟩,
        ⟨(some 37), (some (35, false)), .r1 (.tmp 36)⟩,
        ⟨(some 38), (some (35, false)), .p (.fieldA 1 (.tmp 5))⟩,
        ⟨(some 39), (some (35, false)), .r1 (.tmp 38)⟩,
        ⟨(some 40), (some (35, false)), .p (.len false (.tmp 39))⟩,
        ⟨(some 41), (some (35, false)), .p (.ibin .gtr (.tmp 37) (.tmp 40))⟩,
        ⟨(some 42), none, .p (.pick (.tmp 35) (.const (.bool true)) (.tmp 41))⟩])
     (.cond (.tmp 42)
      (.seq
       (.region [⟨(some 4), none, .p (.mv (.const (.int .i64 16)))⟩])
       .ret)
      .skip))
    (.seq
     (.seq
      (.region [⟨(some 43), none, .p (.mv (.tmp 1))⟩,
         ⟨(some 44), none, .p (.mv (.tmp 43))⟩,
         ⟨(some 45), (some (44, true)), .p (.fieldA 0 (.tmp 5))⟩,
         ⟨(some 46), (some (44, true)), .r1 (.tmp 45)⟩,
         ⟨(some 47), (some (44, true)), .p (.ibin .neq (.tmp 46) (.const (.int .i64 0)))⟩,
         ⟨(some 48), (some (44, true)), .p (.mv (.tmp 47))⟩,
         ⟨(some 49), (some (48, false)), .p (.fieldA 2 (.tmp 5))⟩,
         ⟨(some 50), (some (48, false)), .r1 (.tmp 49)⟩,
         ⟨(some 51), (some (48, false)), .p (.len false (.tmp 50))⟩,
         ⟨(some 52), (some (48, false)), .p (.ibin .neq (.tmp 51) (.const (.int .i64 0)))⟩,
         ⟨(some 53), (some (44, true)), .p (.pick (.tmp 48) (.const (.bool true)) (.tmp 52))⟩,
         ⟨(some 54), none, .p (.pick (.tmp 44) (.tmp 53) (.const (.bool false)))⟩])
      (.cond (.tmp 54)
       (.seq
        (.region [⟨(some 4), none, .p (.mv (.const (.int .i64 13)))⟩])
        .ret)
       .skip))
     (.seq
      (.seq
       (.region [⟨(some 55), none, .p (.fieldA 1 (.tmp 5))⟩,
          ⟨(some 56), none, .r1 (.tmp 55)⟩,
          ⟨(some 57), none, .p (.len false (.tmp 56))⟩,
          ⟨(some 58), none, .p (.mv (.const (.int .i64 0)))⟩])
       (.block 0
        (.loop
         (.seq
          (.region [⟨(some 59), none, .p (.ibin .lss (.tmp 58) (.tmp 57))⟩])
          (.seq
           (.cond (.tmp 59)
            .skip
            (.exit 0))
           (.seq
            (.block 1
             (.seq
              (.region [⟨(some 60), none, .p (.idxSl 1 (.tmp 56) (.tmp 58))⟩,
                 ⟨(some 61), none, .r1 (.tmp 60)⟩,
                 ⟨(some 7), none, .p (.mv (.tmp 61))⟩])
              (.seq
               (.region [⟨(some 62), none, .p (.mv (.tmp 7))⟩,
                  ⟨(some 63), none, .p (.ibin .neq (.tmp 62) (.const (.int .i64 2)))⟩,
                  ⟨(some 64), none, .p (.mv (.tmp 63))⟩,
                  ⟨(some 65), (some (64, true)), .p (.mv (.tmp 0))⟩,
                  ⟨(some 66), (some (64, true)), .p (.mv (.tmp 7))⟩,
                  ⟨(some 67), (some (64, true)), .w (.call 59 [(.tmp 65), (.tmp 66)])⟩,
                  ⟨(some 68), (some (64, true)), .p (.not (.tmp 67))⟩,
                  ⟨(some 69), none, .p (.pick (.tmp 64) (.tmp 68) (.const (.bool false)))⟩])
               (.cond (.tmp 69)
                (.seq
                 (.region [⟨(some 4), none, .p (.mv (.const (.int .i64 10)))⟩])
                 .ret)
                .skip))))
            (.region [⟨(some 70), none, .p (.ibin .add (.tmp 58) (.const (.int .i64 1)))⟩,
               ⟨(some 58), none, .p (.mv (.tmp 70))⟩])))))))
      (.seq
       (.seq
        (.region [⟨(some 71), none, .p (.fieldA 2 (.tmp 5))⟩,
           ⟨(some 72), none, .r1 (.tmp 71)⟩,
           ⟨(some 73), none, .p (.len false (.tmp 72))⟩,
           ⟨(some 74), none, .p (.mv (.const (.int .i64 0)))⟩])
        (.block 2
         (.loop
          (.seq
           (.region [⟨(some 75), none, .p (.ibin .lss (.tmp 74) (.tmp 73))⟩])
           (.seq
            (.cond (.tmp 75)
             .skip
             (.exit 2))
            (.seq
             (.block 3
              (.seq
               (.region [⟨(some 76), none, .p (.idxSl 1 (.tmp 72) (.tmp 74))⟩,
                  ⟨(some 77), none, .r1 (.tmp 76)⟩,
                  ⟨(some 9), none, .p (.mv (.tmp 77))⟩])
               (.seq
                (.region [⟨(some 78), none, .p (.mv (.tmp 0))⟩,
                   ⟨(some 79), none, .p (.mv (.tmp 9))⟩,
                   ⟨(some 80), none, .w (.call 59 [(.tmp 78), (.tmp 79)])⟩,
                   ⟨(some 81), none, .p (.not (.tmp 80))⟩])
                (.cond (.tmp 81)
                 (.seq
                  (.region [⟨(some 4), none, .p (.mv (.const (.int .i64 10)))⟩])
                  .ret)
                 .skip))))
             (.region [⟨(some 82), none, .p (.ibin .add (.tmp 74) (.const (.int .i64 1)))⟩,
                ⟨(some 74), none, .p (.mv (.tmp 82))⟩])))))))
       (.seq
        (.seq
         (.region [⟨(some 83), none, .p (.fieldA 3 (.tmp 5))⟩,
            ⟨(some 84), none, .r1 (.tmp 83)⟩,
            ⟨(some 85), none, .p (.len false (.tmp 84))⟩,
            ⟨(some 86), none, .p (.ibin .eql (.tmp 85) (.const (.int .i64 0)))⟩])
         (.cond (.tmp 86)
          (.seq
           (.region [⟨(some 4), none, .p (.mv (.const (.int .i64 7)))⟩])
           .ret)
          .skip))
        (.seq
         (.seq
          (.region [⟨(some 87), none, .p (.fieldA 3 (.tmp 5))⟩,
             ⟨(some 88), none, .r1 (.tmp 87)⟩,
             ⟨(some 89), none, .p (.fieldA 3 (.tmp 5))⟩,
             ⟨(some 90), none, .r1 (.tmp 89)⟩,
             ⟨(some 91), none, .p (.len false (.tmp 90))⟩,
             ⟨(some 92), none, .p (.ibin .sub (.tmp 91) (.const (.int .i64 1)))⟩,
             ⟨(some 93), none, .p (.idxSl 6 (.tmp 88) (.tmp 92))⟩,
             ⟨(some 94), none, .p (.fieldA 0 (.tmp 93))⟩,
             ⟨(some 95), none, .r1 (.tmp 94)⟩])
          (.block 4
           (.seq
            (.seq
             (.region [⟨(some 97), none, .p (.ibin .eql (.tmp 95) (.const (.int .i64 36)))⟩,
                ⟨(some 96), none, .p (.mv (.tmp 97))⟩])
             (.cond (.tmp 96)
              .skip
              (.seq
               (.region [⟨(some 98), none, .p (.ibin .eql (.tmp 95) (.const (.int .i64 24)))⟩,
                  ⟨(some 96), none, .p (.mv (.tmp 98))⟩])
               (.cond (.tmp 96)
                .skip
                (.seq
                 (.region [⟨(some 99), none, .p (.ibin .eql (.tmp 95) (.const (.int .i64 52)))⟩,
                    ⟨(some 96), none, .p (.mv (.tmp 99))⟩])
                 (.cond (.tmp 96)
                  .skip
                  (.region [⟨(some 100), none, .p (.ibin .eql (.tmp 95) (.const (.int .i64 39)))⟩,
                     ⟨(some 96), none, .p (.mv (.tmp 100))⟩])))))))
            (.cond (.tmp 96)
             (.seq
              (.region [⟨(some 4), none, .p (.mv (.const (.int .i64 0)))⟩])
              .ret)
             .skip))))
         (.seq
          (.region [⟨(some 4), none, .p (.mv (.const (.int .i64 7)))⟩])
          .ret))))))))), [.tmp 4]⟩
theorem comp42 : compFunc Try.prog 42 = some a42 := by kernel_rfl
theorem callable42 : callable Try.prog 42 = true := by kernel_rfl

/-- (*treadle/ideal.routine).push -/
def a44 : AFunc := ⟨2, (.seq
  (.region [⟨(some 4), none, .p (.mv (.tmp 0))⟩,
     ⟨(some 5), none, .p (.nilck (.tmp 4))⟩,
     ⟨(some 6), none, .p (.fieldA 4 (.tmp 5))⟩,
     ⟨(some 7), none, .r1 (.tmp 6)⟩,
     ⟨(some 8), none, .p (.ibin .add (.tmp 7) (.const (.int .u64 1)))⟩,
     ⟨(some 9), none, .p (.nilck (.tmp 4))⟩,
     ⟨(some 10), none, .p (.fieldA 4 (.tmp 9))⟩,
     ⟨none, none, .w (.st1 (.tmp 10) (.tmp 8))⟩])
  (.seq
   (.region [⟨(some 11), none, .p (.mv (.tmp 1))⟩,
      ⟨(some 12), none, .p (.mv (.tmp 0))⟩,
      ⟨(some 13), none, .p (.nilck (.tmp 12))⟩,
      ⟨(some 14), none, .p (.fieldA 4 (.tmp 13))⟩,
      ⟨(some 15), none, .r1 (.tmp 14)⟩,
      ⟨(some 16), none, .p (.nilck (.tmp 11))⟩,
      ⟨(some 17), none, .p (.fieldA 2 (.tmp 16))⟩,
      ⟨none, none, .w (.st1 (.tmp 17) (.tmp 15))⟩])
   (.region [⟨(some 18), none, .p (.mv (.tmp 0))⟩,
      ⟨(some 19), none, .p (.mv (.tmp 0))⟩,
      ⟨(some 20), none, .p (.nilck (.tmp 19))⟩,
      ⟨(some 21), none, .p (.fieldA 3 (.tmp 20))⟩,
      ⟨(some 22), none, .r1 (.tmp 21)⟩,
      ⟨(some 23), none, .p (.mv (.tmp 1))⟩,
      ⟨(some 24), none, .w (.bslice 81 1 [.pointer none] [(0, 1, (.tmp 23))])⟩,
      ⟨(some 25), none, .w (.app 81 8 [.pointer none] (.tmp 22) (.tmp 24))⟩,
      ⟨(some 26), none, .p (.nilck (.tmp 18))⟩,
      ⟨(some 27), none, .p (.fieldA 3 (.tmp 26))⟩,
      ⟨none, none, .w (.st1 (.tmp 27) (.tmp 25))⟩]))), []⟩
theorem comp44 : compFunc Try.prog 44 = some a44 := by kernel_rfl
theorem callable44 : callable Try.prog 44 = true := by kernel_rfl

/-- (*treadle/ideal.Ideal).unwind -/
def a46 : AFunc := ⟨2, (.seq
  (.block 0
   (.loop
    (.seq
     (.seq
      (.region [⟨(some 5), none, .p (.mv (.tmp 1))⟩,
         ⟨(some 6), none, .p (.nilck (.tmp 5))⟩,
         ⟨(some 7), none, .p (.fieldA 3 (.tmp 6))⟩,
         ⟨(some 8), none, .r1 (.tmp 7)⟩,
         ⟨(some 9), none, .p (.len false (.tmp 8))⟩,
         ⟨(some 10), none, .p (.ibin .gtr (.tmp 9) (.const (.int .i64 0)))⟩])
      (.cond (.tmp 10)
       .skip
       (.exit 0)))
     (.block 1
      (.seq
       (.region [⟨(some 11), none, .p (.mv (.tmp 1))⟩,
          ⟨(some 12), none, .w (.call 29 [(.tmp 11)])⟩,
          ⟨(some 4), none, .p (.mv (.tmp 12))⟩])
       (.seq
        (.seq
         (.region [⟨(some 13), none, .p (.mv (.tmp 4))⟩,
            ⟨(some 14), none, .p (.nilck (.tmp 13))⟩,
            ⟨(some 15), none, .p (.fieldA 5 (.tmp 14))⟩,
            ⟨(some 16), none, .r1 (.tmp 15)⟩,
            ⟨(some 17), none, .p (.len false (.tmp 16))⟩,
            ⟨(some 18), none, .p (.ibin .gtr (.tmp 17) (.const (.int .i64 0)))⟩])
         (.cond (.tmp 18)
          (.seq
           (.region [⟨(some 19), none, .p (.mv (.tmp 0))⟩,
              ⟨(some 20), none, .p (.mv (.tmp 1))⟩,
              ⟨(some 21), none, .p (.mv (.tmp 4))⟩,
              ⟨(some 22), none, .w (.call 70 [(.tmp 19), (.tmp 20), (.tmp 21), (.const (.int .i64 2))])⟩])
           .ret)
          .skip))
        (.draw [⟨0, ⟨(some 23), none, .p (.mv (.tmp 1))⟩, []⟩,
           ⟨1, ⟨(some 24), none, .p (.mv (.tmp 1))⟩, []⟩,
           ⟨2, ⟨(some 25), none, .p (.nilck (.tmp 24))⟩, []⟩,
           ⟨3, ⟨(some 26), none, .p (.fieldA 3 (.tmp 25))⟩, []⟩,
           ⟨4, ⟨(some 27), none, .r1 (.tmp 26)⟩, []⟩,
           ⟨5, ⟨(some 28), none, .p (.mv (.tmp 1))⟩, []⟩,
           ⟨6, ⟨(some 29), none, .p (.nilck (.tmp 28))⟩, []⟩,
           ⟨7, ⟨(some 30), none, .p (.fieldA 3 (.tmp 29))⟩, []⟩,
           ⟨8, ⟨(some 31), none, .r1 (.tmp 30)⟩, []⟩,
           ⟨9, ⟨(some 32), none, .p (.len false (.tmp 31))⟩, []⟩,
           ⟨10, ⟨(some 33), none, .p (.ibin .sub (.tmp 32) (.const (.int .i64 1)))⟩, []⟩,
           ⟨11, ⟨(some 34), none, .p (.slc 1 (.tmp 27) none (some (.tmp 33)))⟩, []⟩,
           ⟨12, ⟨(some 35), none, .p (.nilck (.tmp 23))⟩, []⟩,
           ⟨13, ⟨(some 36), none, .p (.fieldA 3 (.tmp 35))⟩, []⟩,
           ⟨14, ⟨none, none, .w (.st1 (.tmp 36) (.tmp 34))⟩, []⟩])))))))
  (.seq
   (.region [⟨(some 37), none, .p (.mv (.tmp 1))⟩,
      ⟨(some 38), none, .p (.nilck (.tmp 37))⟩,
      ⟨(some 39), none, .p (.fieldA 0 (.tmp 38))⟩,
      ⟨none, none, .w (.st1 (.tmp 39) (.const (.int .i64 3)))⟩])
   (.region [⟨(some 40), none, .p (.mv (.tmp 0))⟩,
      ⟨(some 41), none, .p (.mv (.tmp 1))⟩,
      ⟨(some 42), none, .p (.nilck (.tmp 41))⟩,
      ⟨(some 43), none, .p (.fieldA 6 (.tmp 42))⟩,
      ⟨(some 44), none, .r1 (.tmp 43)⟩,
      ⟨(some 45), none, .p (.conv .u64 (.tmp 44))⟩,
      ⟨(some 46), none, .w (.call 32 [(.tmp 40), (.const (.int .i64 4)), (.tmp 45)])⟩]))), []⟩
theorem comp46 : compFunc Try.prog 46 = some a46 := by kernel_rfl
theorem callable46 : callable Try.prog 46 = true := by kernel_rfl

/-- treadle/ideal.whole -/
def a48 : AFunc := ⟨3, (.seq
  (.region [⟨(some 6), none, .p (.mv (.const (.int .u64 0)))⟩,
     ⟨(some 7), none, .p (.mv (.const (.bool false)))⟩])
  (.seq
   (.seq
    (.region [⟨(some 8), none, .p (.mv (.tmp 0))⟩])
    (.block 0
     (.seq
      (.region [⟨(some 10), none, .p (.ibin .eql (.tmp 8) (.const (.int .i64 3)))⟩,
         ⟨(some 9), none, .p (.mv (.tmp 10))⟩])
      (.cond (.tmp 9)
       (.seq
        (.region [⟨(some 11), none, .p (.mv (.tmp 1))⟩,
           ⟨(some 12), none, .p (.mv (.tmp 2))⟩,
           ⟨(some 13), none, .p (.ibin .add (.tmp 11) (.tmp 12))⟩,
           ⟨(some 6), none, .p (.mv (.tmp 13))⟩,
           ⟨(some 7), none, .p (.mv (.const (.bool true)))⟩])
        .ret)
       (.seq
        (.region [⟨(some 15), none, .p (.ibin .eql (.tmp 8) (.const (.int .i64 4)))⟩,
           ⟨(some 14), none, .p (.mv (.tmp 15))⟩])
        (.cond (.tmp 14)
         (.seq
          (.region [⟨(some 16), none, .p (.mv (.tmp 1))⟩,
             ⟨(some 17), none, .p (.mv (.tmp 2))⟩,
             ⟨(some 18), none, .p (.ibin .sub (.tmp 16) (.tmp 17))⟩,
             ⟨(some 6), none, .p (.mv (.tmp 18))⟩,
             ⟨(some 7), none, .p (.mv (.const (.bool true)))⟩])
          .ret)
         (.seq
          (.region [⟨(some 20), none, .p (.ibin .eql (.tmp 8) (.const (.int .i64 5)))⟩,
             ⟨(some 19), none, .p (.mv (.tmp 20))⟩])
          (.cond (.tmp 19)
           (.seq
            (.region [⟨(some 21), none, .p (.mv (.tmp 1))⟩,
               ⟨(some 22), none, .p (.mv (.tmp 2))⟩,
               ⟨(some 23), none, .p (.ibin .mul (.tmp 21) (.tmp 22))⟩,
               ⟨(some 6), none, .p (.mv (.tmp 23))⟩,
               ⟨(some 7), none, .p (.mv (.const (.bool true)))⟩])
            .ret)
           (.seq
            (.region [⟨(some 25), none, .p (.ibin .eql (.tmp 8) (.const (.int .i64 8)))⟩,
               ⟨(some 24), none, .p (.mv (.tmp 25))⟩])
            (.cond (.tmp 24)
             (.seq
              (.region [⟨(some 26), none, .p (.mv (.tmp 1))⟩,
                 ⟨(some 27), none, .p (.mv (.tmp 2))⟩,
                 ⟨(some 28), none, .p (.ibin .and (.tmp 26) (.tmp 27))⟩,
                 ⟨(some 6), none, .p (.mv (.tmp 28))⟩,
                 ⟨(some 7), none, .p (.mv (.const (.bool true)))⟩])
              .ret)
             (.seq
              (.region [⟨(some 30), none, .p (.ibin .eql (.tmp 8) (.const (.int .i64 9)))⟩,
                 ⟨(some 29), none, .p (.mv (.tmp 30))⟩])
              (.cond (.tmp 29)
               (.seq
                (.region [⟨(some 31), none, .p (.mv (.tmp 1))⟩,
                   ⟨(some 32), none, .p (.mv (.tmp 2))⟩,
                   ⟨(some 33), none, .p (.ibin .or (.tmp 31) (.tmp 32))⟩,
                   ⟨(some 6), none, .p (.mv (.tmp 33))⟩,
                   ⟨(some 7), none, .p (.mv (.const (.bool true)))⟩])
                .ret)
               (.seq
                (.region [⟨(some 35), none, .p (.ibin .eql (.tmp 8) (.const (.int .i64 10)))⟩,
                   ⟨(some 34), none, .p (.mv (.tmp 35))⟩])
                (.cond (.tmp 34)
                 (.seq
                  (.region [⟨(some 36), none, .p (.mv (.tmp 1))⟩,
                     ⟨(some 37), none, .p (.mv (.tmp 2))⟩,
                     ⟨(some 38), none, .p (.ibin .xor (.tmp 36) (.tmp 37))⟩,
                     ⟨(some 6), none, .p (.mv (.tmp 38))⟩,
                     ⟨(some 7), none, .p (.mv (.const (.bool true)))⟩])
                  .ret)
                 (.seq
                  (.region [⟨(some 40), none, .p (.ibin .eql (.tmp 8) (.const (.int .i64 11)))⟩,
                     ⟨(some 39), none, .p (.mv (.tmp 40))⟩])
                  (.cond (.tmp 39)
                   (.seq
                    (.region [⟨(some 41), none, .p (.mv (.tmp 1))⟩,
                       ⟨(some 42), none, .p (.mv (.tmp 2))⟩,
                       ⟨(some 43), none, .p (.ibin .and (.tmp 42) (.const (.int .u64 63)))⟩,
                       ⟨(some 44), none, .p (.ibin .shl (.tmp 41) (.tmp 43))⟩,
                       ⟨(some 6), none, .p (.mv (.tmp 44))⟩,
                       ⟨(some 7), none, .p (.mv (.const (.bool true)))⟩])
                    .ret)
                   (.seq
                    (.region [⟨(some 46), none, .p (.ibin .eql (.tmp 8) (.const (.int .i64 12)))⟩,
                       ⟨(some 45), none, .p (.mv (.tmp 46))⟩])
                    (.cond (.tmp 45)
                     (.seq
                      (.region [⟨(some 47), none, .p (.mv (.tmp 1))⟩,
                         ⟨(some 48), none, .p (.conv .i64 (.tmp 47))⟩,
                         ⟨(some 49), none, .p (.mv (.tmp 2))⟩,
                         ⟨(some 50), none, .p (.ibin .and (.tmp 49) (.const (.int .u64 63)))⟩,
                         ⟨(some 51), none, .p (.ibin .shr (.tmp 48) (.tmp 50))⟩,
                         ⟨(some 52), none, .p (.conv .u64 (.tmp 51))⟩,
                         ⟨(some 6), none, .p (.mv (.tmp 52))⟩,
                         ⟨(some 7), none, .p (.mv (.const (.bool true)))⟩])
                      .ret)
                     (.seq
                      (.seq
                       (.region [⟨(some 54), none, .p (.ibin .eql (.tmp 8) (.const (.int .i64 13)))⟩,
                          ⟨(some 53), none, .p (.mv (.tmp 54))⟩])
                       (.cond (.tmp 53)
                        .skip
                        (.region [⟨(some 55), none, .p (.ibin .eql (.tmp 8) (.const (.int .i64 23)))⟩,
                           ⟨(some 53), none, .p (.mv (.tmp 55))⟩])))
                      (.cond (.tmp 53)
                       (.seq
                        (.region [⟨(some 56), none, .p (.mv (.tmp 1))⟩,
                           ⟨(some 57), none, .p (.mv (.tmp 2))⟩,
                           ⟨(some 58), none, .p (.ibin .eql (.tmp 56) (.tmp 57))⟩,
                           ⟨(some 59), none, .w (.call 71 [(.tmp 58)])⟩,
                           ⟨(some 6), none, .p (.mv (.tmp 59))⟩,
                           ⟨(some 7), none, .p (.mv (.const (.bool true)))⟩])
                        .ret)
                       (.seq
                        (.region [⟨(some 61), none, .p (.ibin .eql (.tmp 8) (.const (.int .i64 14)))⟩,
                           ⟨(some 60), none, .p (.mv (.tmp 61))⟩])
                        (.cond (.tmp 60)
                         (.seq
                          (.region [⟨(some 62), none, .p (.mv (.tmp 1))⟩,
                             ⟨(some 63), none, .p (.conv .i64 (.tmp 62))⟩,
                             ⟨(some 64), none, .p (.mv (.tmp 2))⟩,
                             ⟨(some 65), none, .p (.conv .i64 (.tmp 64))⟩,
                             ⟨(some 66), none, .p (.ibin .lss (.tmp 63) (.tmp 65))⟩,
                             ⟨(some 67), none, .w (.call 71 [(.tmp 66)])⟩,
                             ⟨(some 6), none, .p (.mv (.tmp 67))⟩,
                             ⟨(some 7), none, .p (.mv (.const (.bool true)))⟩])
                          .ret)
                         .skip))))))))))))))))))))))
   (.seq
    (.seq
     (.region [⟨(some 68), none, .p (.mv (.tmp 2))⟩,
        ⟨(some 69), none, .p (.ibin .eql (.tmp 68) (.const (.int .u64 0)))⟩])
     (.cond (.tmp 69)
      (.seq
       (.region [⟨(some 6), none, .p (.mv (.const (.int .u64 0)))⟩,
          ⟨(some 7), none, .p (.mv (.const (.bool false)))⟩])
       .ret)
      .skip))
    (.seq
     (.seq
      (.region [⟨(some 70), none, .p (.mv (.tmp 0))⟩,
         ⟨(some 71), none, .p (.ibin .eql (.tmp 70) (.const (.int .i64 6)))⟩])
      (.cond (.tmp 71)
       (.seq
        (.region [⟨(some 72), none, .p (.mv (.tmp 1))⟩,
           ⟨(some 73), none, .p (.conv .i64 (.tmp 72))⟩,
           ⟨(some 74), none, .p (.mv (.tmp 2))⟩,
           ⟨(some 75), none, .p (.conv .i64 (.tmp 74))⟩,
           ⟨(some 76), none, .p (.ibin .quo (.tmp 73) (.tmp 75))⟩,
           ⟨(some 77), none, .p (.conv .u64 (.tmp 76))⟩,
           ⟨(some 6), none, .p (.mv (.tmp 77))⟩,
           ⟨(some 7), none, .p (.mv (.const (.bool true)))⟩])
        .ret)
       .skip))
     (.seq
      (.region [⟨(some 78), none, .p (.mv (.tmp 1))⟩,
         ⟨(some 79), none, .p (.conv .i64 (.tmp 78))⟩,
         ⟨(some 80), none, .p (.mv (.tmp 2))⟩,
         ⟨(some 81), none, .p (.conv .i64 (.tmp 80))⟩,
         ⟨(some 82), none, .p (.ibin .rem (.tmp 79) (.tmp 81))⟩,
         ⟨(some 83), none, .p (.conv .u64 (.tmp 82))⟩,
         ⟨(some 6), none, .p (.mv (.tmp 83))⟩,
         ⟨(some 7), none, .p (.mv (.const (.bool true)))⟩])
      .ret))))), [.tmp 6, .tmp 7]⟩
theorem comp48 : compFunc Try.prog 48 = some a48 := by kernel_rfl
theorem callable48 : callable Try.prog 48 = true := by kernel_rfl

/-- treadle/flo.FromInt -/
def a50 : AFunc := ⟨1, (.seq
  (.region [⟨(some 2), none, .p (.mv (.const (.int .u64 0)))⟩])
  (.seq
   (.region [⟨(some 3), none, .p (.mv (.tmp 0))⟩,
      ⟨(some 4), none, .w (.ext .itof [(.tmp 3)])⟩,
      ⟨(some 5), none, .w (.call 33 [(.tmp 4)])⟩,
      ⟨(some 2), none, .p (.mv (.tmp 5))⟩])
   .ret)), [.tmp 2]⟩
theorem comp50 : compFunc Try.prog 50 = some a50 := by kernel_rfl
theorem callable50 : callable Try.prog 50 = true := by kernel_rfl

/-- (*treadle/ideal.routine).refers -/
def a52 : AFunc := ⟨2, (.seq
  (.region [⟨(some 4), none, .p (.mv (.const (.pointer none)))⟩])
  (.seq
   (.seq
    (.region [⟨(some 7), none, .p (.mv (.tmp 0))⟩,
       ⟨(some 8), none, .p (.nilck (.tmp 7))⟩,
       ⟨(some 9), none, .p (.fieldA 3 (.tmp 8))⟩,
       ⟨(some 10), none, .r1 (.tmp 9)⟩,
       ⟨(some 11), none, .p (.len false (.tmp 10))⟩,
       ⟨(some 12), none, .p (.mv (.const (.int .i64 0)))⟩])
    (.block 0
     (.loop
      (.seq
       (.region [⟨(some 13), none, .p (.ibin .lss (.tmp 12) (.tmp 11))⟩])
       (.seq
        (.cond (.tmp 13)
         .skip
         (.exit 0))
        (.seq
         (.block 1
          (.seq
           (.region [⟨(some 14), none, .p (.idxSl 1 (.tmp 10) (.tmp 12))⟩,
              ⟨(some 15), none, .r1 (.tmp 14)⟩,
              ⟨(some 6), none, .p (.mv (.tmp 15))⟩])
           (.seq
            (.region [⟨(some 16), none, .p (.mv (.tmp 6))⟩,
               ⟨(some 17), none, .p (.nilck (.tmp 16))⟩,
               ⟨(some 18), none, .p (.fieldA 2 (.tmp 17))⟩,
               ⟨(some 19), none, .r1 (.tmp 18)⟩,
               ⟨(some 20), none, .p (.mv (.tmp 1))⟩,
               ⟨(some 21), none, .p (.ibin .quo (.tmp 20) (.const (.int .u64 64)))⟩,
               ⟨(some 22), none, .p (.ibin .eql (.tmp 19) (.tmp 21))⟩,
               ⟨(some 23), none, .p (.mv (.tmp 22))⟩,
               ⟨(some 24), (some (23, true)), .p (.mv (.tmp 1))⟩,
               ⟨(some 25), (some (23, true)), .p (.ibin .gtr (.tmp 24) (.const (.int .u64 0)))⟩,
               ⟨(some 26), none, .p (.pick (.tmp 23) (.tmp 25) (.const (.bool false)))⟩])
            (.cond (.tmp 26)
             (.seq
              (.region [⟨(some 27), none, .p (.mv (.tmp 6))⟩,
                 ⟨(some 28), none, .p (.nilck (.tmp 27))⟩,
                 ⟨(some 29), none, .p (.fieldA 3 (.tmp 28))⟩,
                 ⟨(some 30), none, .r1 (.tmp 29)⟩,
                 ⟨(some 31), none, .p (.mv (.tmp 1))⟩,
                 ⟨(some 32), none, .p (.ibin .rem (.tmp 31) (.const (.int .u64 64)))⟩,
                 ⟨(some 33), none, .p (.idxSl 1 (.tmp 30) (.tmp 32))⟩,
                 ⟨(some 4), none, .p (.mv (.tmp 33))⟩])
              .ret)
             .skip))))
         (.region [⟨(some 34), none, .p (.ibin .add (.tmp 12) (.const (.int .i64 1)))⟩,
            ⟨(some 12), none, .p (.mv (.tmp 34))⟩])))))))
   (.seq
    (.region [⟨(some 4), none, .p (.mv (.const (.pointer none)))⟩])
    .ret))), [.tmp 4]⟩
theorem comp52 : compFunc Try.prog 52 = some a52 := by kernel_rfl
theorem callable52 : callable Try.prog 52 = true := by kernel_rfl

/-- (*treadle/ideal.Ideal).calls -/
def a54 : AFunc := ⟨4, (.seq
  (.region [⟨(some 7), none, .w (.box 38 (.tmp 3))⟩])
  (.seq
   (.region [⟨(some 10), none, .p (.fieldA 0 (.tmp 7))⟩,
      ⟨(some 11), none, .r1 (.tmp 10)⟩])
   (.block 0
    (.seq
     (.region [⟨(some 13), none, .p (.ibin .eql (.tmp 11) (.const (.int .i64 35)))⟩,
        ⟨(some 12), none, .p (.mv (.tmp 13))⟩])
     (.cond (.tmp 12)
      (.seq
       (.seq
        (.region [⟨(some 14), none, .p (.mv (.tmp 1))⟩,
           ⟨(some 15), none, .p (.nilck (.tmp 14))⟩,
           ⟨(some 16), none, .p (.fieldA 3 (.tmp 15))⟩,
           ⟨(some 17), none, .r1 (.tmp 16)⟩,
           ⟨(some 18), none, .p (.len false (.tmp 17))⟩,
           ⟨(some 19), none, .p (.ibin .geq (.tmp 18) (.const (.int .i64 64)))⟩])
        (.cond (.tmp 19)
         (.seq
          (.region [⟨(some 20), none, .p (.mv (.tmp 0))⟩,
             ⟨(some 21), none, .w (.call 28 [(.tmp 20), (.const (.int .i64 (-5)))])⟩])
          .ret)
         .skip))
       (.seq
        (.draw [⟨0, ⟨(some 22), none, .p (.mv (.tmp 0))⟩, []⟩,
           ⟨1, ⟨(some 23), none, .p (.nilck (.tmp 22))⟩, []⟩,
           ⟨2, ⟨(some 24), none, .p (.fieldA 0 (.tmp 23))⟩, []⟩,
           ⟨3, ⟨(some 25), none, .p (.fieldA 2 (.tmp 24))⟩, []⟩,
           ⟨4, ⟨(some 26), none, .r1 (.tmp 25)⟩, []⟩,
           ⟨5, ⟨(some 27), none, .p (.fieldA 1 (.tmp 7))⟩, []⟩,
           ⟨6, ⟨(some 28), none, .r1 (.tmp 27)⟩, []⟩,
           ⟨7, ⟨(some 29), none, .p (.idxSl 4 (.tmp 26) (.tmp 28))⟩, []⟩,
           ⟨8, ⟨(some 30), none, .p (.fieldA 0 (.tmp 29))⟩, []⟩,
           ⟨9, ⟨(some 31), none, .r1 (.tmp 30)⟩, []⟩,
           ⟨10, ⟨(some 8), none, .p (.mv (.tmp 31))⟩, []⟩])
        (.seq
         (.draw [⟨0, ⟨(some 32), none, .p (.mv (.tmp 0))⟩, []⟩,
            ⟨1, ⟨(some 33), none, .p (.fieldA 1 (.tmp 7))⟩, []⟩,
            ⟨2, ⟨(some 34), none, .r1 (.tmp 33)⟩, []⟩,
            ⟨3, ⟨(some 35), none, .p (.mv (.tmp 2))⟩, []⟩,
            ⟨4, ⟨(some 36), none, .p (.nilck (.tmp 35))⟩, []⟩,
            ⟨5, ⟨(some 37), none, .p (.fieldA 3 (.tmp 36))⟩, []⟩,
            ⟨6, ⟨(some 38), none, .r1 (.tmp 37)⟩, []⟩,
            ⟨7, ⟨(some 39), none, .p (.fieldA 5 (.tmp 7))⟩, []⟩,
            ⟨8, ⟨(some 40), none, .r1 (.tmp 39)⟩, []⟩,
            ⟨9, ⟨(some 41), none, .p (.mv (.tmp 8))⟩, []⟩,
            ⟨10, ⟨(some 42), none, .p (.slc 1 (.tmp 40) none (some (.tmp 41)))⟩, []⟩,
            ⟨11, ⟨(some 43), none, .w (.call 75 [(.tmp 38), (.tmp 42)])⟩, [2]⟩,
            ⟨12, ⟨(some 44), none, .w (.call 45 [(.tmp 32), (.tmp 34), (.tmp 43)])⟩, []⟩,
            ⟨13, ⟨(some 9), none, .p (.mv (.tmp 44))⟩, []⟩])
         (.seq
          (.region [⟨(some 45), none, .p (.mv (.tmp 9))⟩,
             ⟨(some 46), none, .p (.fieldA 5 (.tmp 7))⟩,
             ⟨(some 47), none, .r1 (.tmp 46)⟩,
             ⟨(some 48), none, .p (.mv (.tmp 8))⟩,
             ⟨(some 49), none, .p (.slc 1 (.tmp 47) (some (.tmp 48)) none)⟩,
             ⟨(some 50), none, .p (.nilck (.tmp 45))⟩,
             ⟨(some 51), none, .p (.fieldA 4 (.tmp 50))⟩,
             ⟨none, none, .w (.st1 (.tmp 51) (.tmp 49))⟩])
          (.region [⟨(some 52), none, .p (.mv (.tmp 1))⟩,
             ⟨(some 53), none, .p (.mv (.tmp 9))⟩,
             ⟨(some 54), none, .w (.call 44 [(.tmp 52), (.tmp 53)])⟩])))))
      (.seq
       (.region [⟨(some 56), none, .p (.ibin .eql (.tmp 11) (.const (.int .i64 37)))⟩,
          ⟨(some 55), none, .p (.mv (.tmp 56))⟩])
       (.cond (.tmp 55)
        (.seq
         (.seq
          (.region [⟨(some 57), none, .p (.mv (.tmp 0))⟩,
             ⟨(some 58), none, .p (.nilck (.tmp 57))⟩,
             ⟨(some 59), none, .p (.fieldA 5 (.tmp 58))⟩,
             ⟨(some 60), none, .r1 (.tmp 59)⟩,
             ⟨(some 61), none, .p (.len false (.tmp 60))⟩,
             ⟨(some 62), none, .p (.ibin .eql (.tmp 61) (.const (.int .i64 64)))⟩])
          (.cond (.tmp 62)
           (.seq
            (.region [⟨(some 63), none, .p (.mv (.tmp 0))⟩,
               ⟨(some 64), none, .w (.call 32 [(.tmp 63), (.const (.int .i64 7)), (.const (.int .u64 0))])⟩])
            .ret)
           .skip))
         (.draw [⟨0, ⟨(some 65), none, .p (.mv (.tmp 0))⟩, []⟩,
            ⟨1, ⟨(some 66), none, .p (.fieldA 1 (.tmp 7))⟩, []⟩,
            ⟨2, ⟨(some 67), none, .r1 (.tmp 66)⟩, []⟩,
            ⟨3, ⟨(some 68), none, .p (.mv (.tmp 2))⟩, []⟩,
            ⟨4, ⟨(some 69), none, .p (.nilck (.tmp 68))⟩, []⟩,
            ⟨5, ⟨(some 70), none, .p (.fieldA 3 (.tmp 69))⟩, []⟩,
            ⟨6, ⟨(some 71), none, .r1 (.tmp 70)⟩, []⟩,
            ⟨7, ⟨(some 72), none, .p (.fieldA 5 (.tmp 7))⟩, []⟩,
            ⟨8, ⟨(some 73), none, .r1 (.tmp 72)⟩, []⟩,
            ⟨9, ⟨(some 74), none, .w (.call 75 [(.tmp 71), (.tmp 73)])⟩, [2]⟩,
            ⟨10, ⟨(some 75), none, .w (.call 27 [(.tmp 65), (.tmp 67), (.tmp 74)])⟩, []⟩]))
        (.seq
         (.region [⟨(some 77), none, .p (.ibin .eql (.tmp 11) (.const (.int .i64 38)))⟩,
            ⟨(some 76), none, .p (.mv (.tmp 77))⟩])
         (.cond (.tmp 76)
          (.seq
           (.seq
            (.region [⟨(some 78), none, .p (.mv (.tmp 1))⟩,
               ⟨(some 79), none, .p (.nilck (.tmp 78))⟩,
               ⟨(some 80), none, .p (.fieldA 3 (.tmp 79))⟩,
               ⟨(some 81), none, .r1 (.tmp 80)⟩,
               ⟨(some 82), none, .p (.len false (.tmp 81))⟩,
               ⟨(some 83), none, .p (.ibin .geq (.tmp 82) (.const (.int .i64 64)))⟩,
               ⟨(some 84), none, .p (.mv (.tmp 83))⟩,
               ⟨(some 85), (some (84, false)), .p (.mv (.tmp 2))⟩,
               ⟨(some 86), (some (84, false)), .p (.nilck (.tmp 85))⟩,
               ⟨(some 87), (some (84, false)), .p (.fieldA 5 (.tmp 86))⟩,
               ⟨(some 88), (some (84, false)), .r1 (.tmp 87)⟩,
               ⟨(some 89), (some (84, false)), .p (.len false (.tmp 88))⟩,
               ⟨(some 90), (some (84, false)), .p (.ibin .eql (.tmp 89) (.const (.int .i64 16)))⟩,
               ⟨(some 91), none, .p (.pick (.tmp 84) (.const (.bool true)) (.tmp 90))⟩])
            (.cond (.tmp 91)
             (.seq
              (.region [⟨(some 92), none, .p (.mv (.tmp 0))⟩,
                 ⟨(some 93), none, .w (.call 28 [(.tmp 92), (.const (.int .i64 (-5)))])⟩])
              .ret)
             .skip))
           (.draw [⟨0, ⟨(some 94), none, .p (.mv (.tmp 2))⟩, []⟩,
              ⟨1, ⟨(some 95), none, .p (.mv (.tmp 2))⟩, []⟩,
              ⟨2, ⟨(some 96), none, .p (.nilck (.tmp 95))⟩, []⟩,
              ⟨3, ⟨(some 97), none, .p (.fieldA 5 (.tmp 96))⟩, []⟩,
              ⟨4, ⟨(some 98), none, .r1 (.tmp 97)⟩, []⟩,
              ⟨5, ⟨(some 99), none, .p (.fieldA 1 (.tmp 7))⟩, []⟩,
              ⟨6, ⟨(some 100), none, .r1 (.tmp 99)⟩, []⟩,
              ⟨7, ⟨(some 101), none, .p (.mv (.tmp 2))⟩, []⟩,
              ⟨8, ⟨(some 102), none, .p (.nilck (.tmp 101))⟩, []⟩,
              ⟨9, ⟨(some 103), none, .p (.fieldA 3 (.tmp 102))⟩, []⟩,
              ⟨10, ⟨(some 104), none, .r1 (.tmp 103)⟩, []⟩,
              ⟨11, ⟨(some 105), none, .p (.fieldA 5 (.tmp 7))⟩, []⟩,
              ⟨12, ⟨(some 106), none, .r1 (.tmp 105)⟩, []⟩,
              ⟨13, ⟨(some 107), none, .w (.call 75 [(.tmp 104), (.tmp 106)])⟩, [4, 6]⟩,
              ⟨14, ⟨(some 108), none, .p (.build [.int .i64 0, .slice none 0 0] [(0, 1, (.tmp 100)), (1, 1, (.tmp 107))])⟩, []⟩,
              ⟨15, ⟨(some 109), none, .w (.bslice 123 1 [.int .i64 0, .slice none 0 0] [(0, 2, (.tmp 108))])⟩, []⟩,
              ⟨16, ⟨(some 110), none, .w (.app 123 32 [.int .i64 0, .slice none 0 0] (.tmp 98) (.tmp 109))⟩, []⟩,
              ⟨17, ⟨(some 111), none, .p (.nilck (.tmp 94))⟩, []⟩,
              ⟨18, ⟨(some 112), none, .p (.fieldA 5 (.tmp 111))⟩, []⟩,
              ⟨19, ⟨none, none, .w (.st1 (.tmp 112) (.tmp 110))⟩, []⟩]))
          (.seq
           (.region [⟨(some 114), none, .p (.ibin .eql (.tmp 11) (.const (.int .i64 36)))⟩,
              ⟨(some 113), none, .p (.mv (.tmp 114))⟩])
           (.cond (.tmp 113)
            (.seq
             (.draw [⟨0, ⟨(some 115), none, .p (.mv (.tmp 2))⟩, []⟩,
                ⟨1, ⟨(some 116), none, .p (.mv (.tmp 2))⟩, []⟩,
                ⟨2, ⟨(some 117), none, .p (.mv (.tmp 2))⟩, []⟩,
                ⟨3, ⟨(some 118), none, .p (.nilck (.tmp 117))⟩, []⟩,
                ⟨4, ⟨(some 119), none, .p (.fieldA 3 (.tmp 118))⟩, []⟩,
                ⟨5, ⟨(some 120), none, .r1 (.tmp 119)⟩, []⟩,
                ⟨6, ⟨(some 121), none, .p (.fieldA 5 (.tmp 7))⟩, []⟩,
                ⟨7, ⟨(some 122), none, .r1 (.tmp 121)⟩, []⟩,
                ⟨8, ⟨(some 123), none, .w (.call 75 [(.tmp 120), (.tmp 122)])⟩, []⟩,
                ⟨9, ⟨(some 124), none, .p (.nilck (.tmp 115))⟩, []⟩,
                ⟨10, ⟨(some 125), none, .p (.fieldA 7 (.tmp 124))⟩, []⟩,
                ⟨11, ⟨none, none, .w (.st1 (.tmp 125) (.const (.bool true)))⟩, []⟩,
                ⟨12, ⟨(some 126), none, .p (.nilck (.tmp 116))⟩, []⟩,
                ⟨13, ⟨(some 127), none, .p (.fieldA 8 (.tmp 126))⟩, []⟩,
                ⟨14, ⟨none, none, .w (.st1 (.tmp 127) (.tmp 123))⟩, []⟩])
             (.region [⟨(some 128), none, .p (.mv (.tmp 0))⟩,
                ⟨(some 129), none, .p (.mv (.tmp 1))⟩,
                ⟨(some 130), none, .w (.call 76 [(.tmp 128), (.tmp 129)])⟩]))
            (.seq
             (.region [⟨(some 132), none, .p (.ibin .eql (.tmp 11) (.const (.int .i64 39)))⟩,
                ⟨(some 131), none, .p (.mv (.tmp 132))⟩])
             (.cond (.tmp 131)
              (.draw [⟨0, ⟨(some 133), none, .p (.mv (.tmp 0))⟩, []⟩,
                 ⟨1, ⟨(some 134), none, .p (.mv (.tmp 2))⟩, []⟩,
                 ⟨2, ⟨(some 135), none, .p (.nilck (.tmp 134))⟩, []⟩,
                 ⟨3, ⟨(some 136), none, .p (.fieldA 3 (.tmp 135))⟩, []⟩,
                 ⟨4, ⟨(some 137), none, .r1 (.tmp 136)⟩, []⟩,
                 ⟨5, ⟨(some 138), none, .p (.fieldA 1 (.tmp 7))⟩, []⟩,
                 ⟨6, ⟨(some 139), none, .r1 (.tmp 138)⟩, []⟩,
                 ⟨7, ⟨(some 140), none, .p (.idxSl 1 (.tmp 137) (.tmp 139))⟩, []⟩,
                 ⟨8, ⟨(some 141), none, .r1 (.tmp 140)⟩, []⟩,
                 ⟨9, ⟨(some 142), none, .p (.conv .i64 (.tmp 141))⟩, []⟩,
                 ⟨10, ⟨(some 143), none, .w (.call 28 [(.tmp 133), (.tmp 142)])⟩, []⟩])
              (.seq
               (.region [⟨(some 145), none, .p (.ibin .eql (.tmp 11) (.const (.int .i64 40)))⟩,
                  ⟨(some 144), none, .p (.mv (.tmp 145))⟩])
               (.cond (.tmp 144)
                (.seq
                 (.draw [⟨0, ⟨(some 146), none, .p (.mv (.tmp 2))⟩, []⟩,
                    ⟨1, ⟨(some 147), none, .p (.nilck (.tmp 146))⟩, []⟩,
                    ⟨2, ⟨(some 148), none, .p (.fieldA 3 (.tmp 147))⟩, []⟩,
                    ⟨3, ⟨(some 149), none, .r1 (.tmp 148)⟩, []⟩,
                    ⟨4, ⟨(some 150), none, .p (.fieldA 1 (.tmp 7))⟩, []⟩,
                    ⟨5, ⟨(some 151), none, .r1 (.tmp 150)⟩, []⟩,
                    ⟨6, ⟨(some 152), none, .p (.mv (.tmp 2))⟩, []⟩,
                    ⟨7, ⟨(some 153), none, .p (.nilck (.tmp 152))⟩, []⟩,
                    ⟨8, ⟨(some 154), none, .p (.fieldA 3 (.tmp 153))⟩, []⟩,
                    ⟨9, ⟨(some 155), none, .r1 (.tmp 154)⟩, []⟩,
                    ⟨10, ⟨(some 156), none, .p (.fieldA 2 (.tmp 7))⟩, []⟩,
                    ⟨11, ⟨(some 157), none, .r1 (.tmp 156)⟩, []⟩,
                    ⟨12, ⟨(some 158), none, .p (.idxSl 1 (.tmp 149) (.tmp 151))⟩, []⟩,
                    ⟨13, ⟨none, none, .w (.st1 (.tmp 158) (.const (.int .u64 0)))⟩, [11]⟩,
                    ⟨14, ⟨(some 159), none, .p (.idxSl 1 (.tmp 155) (.tmp 157))⟩, []⟩,
                    ⟨15, ⟨none, none, .w (.st1 (.tmp 159) (.const (.int .u64 0)))⟩, []⟩])
                 (.seq
                  (.region [⟨(some 160), none, .p (.mv (.tmp 2))⟩,
                     ⟨(some 161), none, .p (.nilck (.tmp 160))⟩,
                     ⟨(some 162), none, .p (.fieldA 6 (.tmp 161))⟩,
                     ⟨(some 163), none, .r1 (.tmp 162)⟩,
                     ⟨(some 164), none, .p (.ibin .eql (.tmp 163) (.const (.int .i64 2)))⟩,
                     ⟨(some 165), none, .p (.mv (.tmp 164))⟩,
                     ⟨(some 166), (some (165, true)), .p (.mv (.tmp 1))⟩,
                     ⟨(some 167), (some (165, true)), .p (.nilck (.tmp 166))⟩,
                     ⟨(some 168), (some (165, true)), .p (.fieldA 5 (.tmp 167))⟩,
                     ⟨(some 169), (some (165, true)), .r1 (.tmp 168)⟩,
                     ⟨(some 170), none, .p (.pick (.tmp 165) (.tmp 169) (.const (.bool false)))⟩])
                  (.cond (.tmp 170)
                   (.seq
                    (.draw [⟨0, ⟨(some 171), none, .p (.mv (.tmp 2))⟩, []⟩,
                       ⟨1, ⟨(some 172), none, .p (.nilck (.tmp 171))⟩, []⟩,
                       ⟨2, ⟨(some 173), none, .p (.fieldA 3 (.tmp 172))⟩, []⟩,
                       ⟨3, ⟨(some 174), none, .r1 (.tmp 173)⟩, []⟩,
                       ⟨4, ⟨(some 175), none, .p (.fieldA 1 (.tmp 7))⟩, []⟩,
                       ⟨5, ⟨(some 176), none, .r1 (.tmp 175)⟩, []⟩,
                       ⟨6, ⟨(some 177), none, .p (.mv (.tmp 2))⟩, []⟩,
                       ⟨7, ⟨(some 178), none, .p (.nilck (.tmp 177))⟩, []⟩,
                       ⟨8, ⟨(some 179), none, .p (.fieldA 3 (.tmp 178))⟩, []⟩,
                       ⟨9, ⟨(some 180), none, .r1 (.tmp 179)⟩, []⟩,
                       ⟨10, ⟨(some 181), none, .p (.fieldA 2 (.tmp 7))⟩, []⟩,
                       ⟨11, ⟨(some 182), none, .r1 (.tmp 181)⟩, []⟩,
                       ⟨12, ⟨(some 183), none, .p (.mv (.tmp 1))⟩, []⟩,
                       ⟨13, ⟨(some 184), none, .p (.nilck (.tmp 183))⟩, []⟩,
                       ⟨14, ⟨(some 185), none, .p (.fieldA 6 (.tmp 184))⟩, []⟩,
                       ⟨15, ⟨(some 186), none, .r1 (.tmp 185)⟩, []⟩,
                       ⟨16, ⟨(some 187), none, .p (.conv .u64 (.tmp 186))⟩, []⟩,
                       ⟨17, ⟨(some 188), none, .p (.idxSl 1 (.tmp 174) (.tmp 176))⟩, []⟩,
                       ⟨18, ⟨none, none, .w (.st1 (.tmp 188) (.tmp 187))⟩, [11]⟩,
                       ⟨19, ⟨(some 189), none, .p (.idxSl 1 (.tmp 180) (.tmp 182))⟩, []⟩,
                       ⟨20, ⟨none, none, .w (.st1 (.tmp 189) (.const (.int .u64 1)))⟩, []⟩])
                    (.region [⟨(some 190), none, .p (.mv (.tmp 1))⟩,
                       ⟨(some 191), none, .p (.nilck (.tmp 190))⟩,
                       ⟨(some 192), none, .p (.fieldA 5 (.tmp 191))⟩,
                       ⟨none, none, .w (.st1 (.tmp 192) (.const (.bool false)))⟩]))
                   .skip)))
                .skip))))))))))))))), []⟩
theorem comp54 : compFunc Try.prog 54 = some a54 := by kernel_rfl
theorem callable54 : callable Try.prog 54 = true := by kernel_rfl

/-- (*treadle/chans.Chan).Values -/
def a58 : AFunc := ⟨1, (.seq
  (.region [⟨(some 2), none, .p (.mv (.const (.slice none 0 0)))⟩])
  (.seq
   (.seq
    (.region [⟨(some 6), none, .p (.mv (.tmp 0))⟩,
       ⟨(some 7), none, .p (.eqp false (.tmp 6) (.const (.pointer none)))⟩])
    (.cond (.tmp 7)
     (.seq
      (.region [⟨(some 2), none, .p (.mv (.const (.slice none 0 0)))⟩])
      .ret)
     .skip))
   (.seq
    (.region [⟨(some 8), none, .p (.mv (.tmp 0))⟩,
       ⟨(some 9), none, .p (.nilck (.tmp 8))⟩,
       ⟨(some 10), none, .p (.fieldA 0 (.tmp 9))⟩,
       ⟨(some 11), none, .r1 (.tmp 10)⟩,
       ⟨(some 12), none, .w (.app 35 8 [.int .u64 0] (.const (.slice none 0 0)) (.tmp 11))⟩,
       ⟨(some 3), none, .p (.mv (.tmp 12))⟩])
    (.seq
     (.seq
      (.region [⟨(some 13), none, .p (.mv (.tmp 0))⟩,
         ⟨(some 14), none, .p (.nilck (.tmp 13))⟩,
         ⟨(some 15), none, .p (.fieldA 3 (.tmp 14))⟩,
         ⟨(some 16), none, .r1 (.tmp 15)⟩,
         ⟨(some 17), none, .p (.len false (.tmp 16))⟩,
         ⟨(some 18), none, .p (.mv (.const (.int .i64 0)))⟩])
      (.block 0
       (.loop
        (.seq
         (.region [⟨(some 19), none, .p (.ibin .lss (.tmp 18) (.tmp 17))⟩])
         (.seq
          (.cond (.tmp 19)
           .skip
           (.exit 0))
          (.seq
           (.block 1
            (.seq
             (.region [⟨(some 20), none, .p (.idxSl 2 (.tmp 16) (.tmp 18))⟩,
                ⟨(some 21), none, .rN 2 (.tmp 20)⟩,
                ⟨(some 5), none, .w (.alloc 147 [.int .i64 0, .int .u64 0])⟩,
                ⟨none, none, .w (.stN 2 (.tmp 5) (.tmp 21))⟩])
             (.region [⟨(some 22), none, .p (.mv (.tmp 3))⟩,
                ⟨(some 23), none, .p (.fieldA 1 (.tmp 5))⟩,
                ⟨(some 24), none, .r1 (.tmp 23)⟩,
                ⟨(some 25), none, .w (.bslice 35 1 [.int .u64 0] [(0, 1, (.tmp 24))])⟩,
                ⟨(some 26), none, .w (.app 35 8 [.int .u64 0] (.tmp 22) (.tmp 25))⟩,
                ⟨(some 3), none, .p (.mv (.tmp 26))⟩])))
           (.region [⟨(some 27), none, .p (.ibin .add (.tmp 18) (.const (.int .i64 1)))⟩,
              ⟨(some 18), none, .p (.mv (.tmp 27))⟩])))))))
     (.seq
      (.region [⟨(some 28), none, .p (.mv (.tmp 3))⟩,
         ⟨(some 2), none, .p (.mv (.tmp 28))⟩])
      .ret))))), [.tmp 2]⟩
theorem comp58 : compFunc Try.prog 58 = some a58 := by kernel_rfl
theorem callable58 : callable Try.prog 58 = true := by kernel_rfl

/-- (*treadle/verify.checker).plain -/
def a60 : AFunc := ⟨4, (.seq
  (.region [⟨(some 8), none, .p (.mv (.const (.int .i64 0)))⟩])
  (.seq
   (.region [⟨(some 10), none, .p (.mv (.tmp 0))⟩,
      ⟨(some 11), none, .p (.nilck (.tmp 10))⟩,
      ⟨(some 12), none, .p (.fieldA 8 (.tmp 11))⟩,
      ⟨(some 13), none, .rN 6 (.tmp 12)⟩,
      ⟨(some 9), none, .w (.alloc 38 [.int .i64 0, .int .i64 0, .int .i64 0, .int .i64 0, .int .u64 0, .slice none 0 0])⟩,
      ⟨none, none, .w (.stN 6 (.tmp 9) (.tmp 13))⟩])
   (.seq
    (.seq
     (.region [⟨(some 14), none, .p (.mv (.tmp 1))⟩,
        ⟨(some 15), none, .p (.ibin .lss (.tmp 14) (.const (.int .i64 1)))⟩,
        ⟨(some 16), none, .p (.mv (.tmp 15))⟩,
        ⟨(some 17), (some (16, true)), .p (.fieldA 1 (.tmp 9))⟩,
        ⟨(some 18), (some (16, true)), .r1 (.tmp 17)⟩,
        ⟨(some 19), (some (16, true)), .p (.ibin .neq (.tmp 18) (.const (.int .i64 0)))⟩,
        ⟨(some 20), none, .p (.pick (.tmp 16) (.tmp 19) (.const (.bool false)))⟩,
        ⟨(some 21), none, .p (.mv (.tmp 20))⟩,
        ⟨(some 22), (some (21, false)), .p (.mv (.tmp 1))⟩,
        ⟨(some 23), (some (21, false)), .p (.ibin .lss (.tmp 22) (.const (.int .i64 2)))⟩,
        ⟨(some 24), (some (21, false)), .p (.mv (.tmp 23))⟩,
        ⟨(some 25), (some (24, true)), .p (.fieldA 2 (.tmp 9))⟩,
        ⟨(some 26), (some (24, true)), .r1 (.tmp 25)⟩,
        ⟨(some 27), (some (24, true)), .p (.ibin .neq (.tmp 26) (.const (.int .i64 0)))⟩,
        ⟨(some 28), (some (21, false)), .p (.pick (.tmp 24) (.tmp 27) (.const (.bool false)))⟩,
        ⟨(some 29), none, .p (.pick (.tmp 21) (.const (.bool true)) (.tmp 28))⟩,
        ⟨(some 30), none, .p (.mv (.tmp 29))⟩,
        ⟨(some 31), (some (30, false)), .p (.mv (.tmp 1))⟩,
        ⟨(some 32), (some (30, false)), .p (.ibin .lss (.tmp 31) (.const (.int .i64 3)))⟩,
        ⟨(some 33), (some (30, false)), .p (.mv (.tmp 32))⟩,
        ⟨(some 34), (some (33, true)), .p (.fieldA 3 (.tmp 9))⟩,
        ⟨(some 35), (some (33, true)), .r1 (.tmp 34)⟩,
        ⟨(some 36), (some (33, true)), .p (.ibin .neq (.tmp 35) (.const (.int .i64 0)))⟩,
        ⟨(some 37), (some (30, false)), .p (.pick (.tmp 33) (.tmp 36) (.const (.bool false)))⟩,
        ⟨(some 38), none, .p (.pick (.tmp 30) (.const (.bool true)) (.tmp 37))⟩,
        ⟨(some 39), none, .p (.mv (.tmp 38))⟩,
        ⟨(some 40), (some (39, false)), .p (.mv (.tmp 2))⟩,
        ⟨(some 41), (some (39, false)), .p (.not (.tmp 40))⟩,
        ⟨(some 42), (some (39, false)), .p (.mv (.tmp 41))⟩,
        ⟨(some 43), (some (42, true)), .p (.fieldA 4 (.tmp 9))⟩,
        ⟨(some 44), (some (42, true)), .r1 (.tmp 43)⟩,
        ⟨(some 45), (some (42, true)), .p (.ibin .neq (.tmp 44) (.const (.int .u64 0)))⟩,
        ⟨(some 46), (some (39, false)), .p (.pick (.tmp 42) (.tmp 45) (.const (.bool false)))⟩,
        ⟨(some 47), none, .p (.pick (.tmp 39) (.const (.bool true)) (.tmp 46))⟩,
        ⟨(some 48), none, .p (.mv (.tmp 47))⟩,
        ⟨(some 49), (some (48, false)), .p (.mv (.tmp 3))⟩,
        ⟨(some 50), (some (48, false)), .p (.not (.tmp 49))⟩,
        ⟨(some 51), (some (48, false)), .p (.mv (.tmp 50))⟩,
        ⟨(some 52), (some (51, true)), .p (.fieldA 5 (.tmp 9))⟩,
        ⟨(some 53), (some (51, true)), .r1 (.tmp 52)⟩,
        ⟨(some 54), (some (51, true)), .p (.len false (.tmp 53))⟩,
        ⟨(some 55), (some (51, true)), .p (.ibin .neq (.tmp 54) (.const (.int .i64 0)))⟩,
        ⟨(some 56), (some (48, false)), .p (.pick (.tmp 51) (.tmp 55) (.const (.bool false)))⟩,
        ⟨(some 57), none, .p (.pick (.tmp 48) (.const (.bool true)) (.tmp 56))⟩])
     (.cond (.tmp 57)
      (.seq
       (.region [⟨(some 8), none, .p (.mv (.const (.int .i64 8)))⟩])
       .ret)
      .skip))
    (.seq
     (.seq
      (.region [⟨(some 58), none, .p (.fieldA 5 (.tmp 9))⟩,
         ⟨(some 59), none, .r1 (.tmp 58)⟩,
         ⟨(some 60), none, .p (.len false (.tmp 59))⟩,
         ⟨(some 61), none, .p (.ibin .gtr (.tmp 60) (.const (.int .i64 24)))⟩])
      (.cond (.tmp 61)
       (.seq
        (.region [⟨(some 8), none, .p (.mv (.const (.int .i64 16)))⟩])
        .ret)
       .skip))
     (.seq
      (.region [⟨(some 8), none, .p (.mv (.const (.int .i64 0)))⟩])
      .ret))))), [.tmp 8]⟩
theorem comp60 : compFunc Try.prog 60 = some a60 := by kernel_rfl
theorem callable60 : callable Try.prog 60 = true := by kernel_rfl

/-- (*treadle/verify.checker).alike -/
def a62 : AFunc := ⟨3, (.seq
  (.region [⟨(some 6), none, .p (.mv (.const (.int .i64 0)))⟩])
  (.seq
   (.region [⟨(some 7), none, .p (.mv (.const (.int .i64 (-1))))⟩])
   (.seq
    (.seq
     (.region [⟨(some 16), none, .p (.mv (.tmp 2))⟩,
        ⟨(some 17), none, .p (.len false (.tmp 16))⟩,
        ⟨(some 18), none, .p (.mv (.const (.int .i64 0)))⟩])
     (.block 0
      (.loop
       (.seq
        (.region [⟨(some 19), none, .p (.ibin .lss (.tmp 18) (.tmp 17))⟩])
        (.seq
         (.cond (.tmp 19)
          .skip
          (.exit 0))
         (.seq
          (.block 1
           (.seq
            (.region [⟨(some 20), none, .p (.idxSl 1 (.tmp 16) (.tmp 18))⟩,
               ⟨(some 21), none, .r1 (.tmp 20)⟩,
               ⟨(some 9), none, .p (.mv (.tmp 21))⟩])
            (.seq
             (.region [⟨(some 23), none, .p (.mv (.tmp 0))⟩,
                ⟨(some 24), none, .p (.mv (.tmp 9))⟩,
                ⟨(some 25), none, .w (.call 84 [(.tmp 23), (.tmp 24)])⟩,
                ⟨(some 22), none, .p (.mv (.tmp 25))⟩,
                ⟨(some 26), none, .p (.extract 0 (.tmp 22))⟩,
                ⟨(some 27), none, .p (.extract 1 (.tmp 22))⟩,
                ⟨(some 10), none, .p (.mv (.tmp 26))⟩,
                ⟨(some 11), none, .p (.mv (.tmp 27))⟩])
             (.seq
              (.region [⟨(some 28), none, .p (.mv (.tmp 11))⟩,
                 ⟨(some 29), none, .p (.not (.tmp 28))⟩])
              (.cond (.tmp 29)
               (.seq
                (.region [⟨(some 6), none, .p (.mv (.const (.int .i64 11)))⟩])
                .ret)
               .skip)))))
          (.region [⟨(some 30), none, .p (.ibin .add (.tmp 18) (.const (.int .i64 1)))⟩,
             ⟨(some 18), none, .p (.mv (.tmp 30))⟩])))))))
    (.seq
     (.seq
      (.region [⟨(some 31), none, .p (.mv (.tmp 2))⟩,
         ⟨(some 32), none, .p (.len false (.tmp 31))⟩,
         ⟨(some 33), none, .p (.mv (.const (.int .i64 0)))⟩])
      (.block 2
       (.loop
        (.seq
         (.region [⟨(some 34), none, .p (.ibin .lss (.tmp 33) (.tmp 32))⟩])
         (.seq
          (.cond (.tmp 34)
           .skip
           (.exit 2))
          (.seq
           (.block 3
            (.seq
             (.region [⟨(some 35), none, .p (.mv (.tmp 33))⟩,
                ⟨(some 36), none, .p (.idxSl 1 (.tmp 31) (.tmp 33))⟩,
                ⟨(some 37), none, .r1 (.tmp 36)⟩,
                ⟨(some 12), none, .p (.mv (.tmp 35))⟩,
                ⟨(some 13), none, .p (.mv (.tmp 37))⟩])
             (.seq
              (.region [⟨(some 39), none, .p (.mv (.tmp 0))⟩,
                 ⟨(some 40), none, .p (.mv (.tmp 13))⟩,
                 ⟨(some 41), none, .w (.call 84 [(.tmp 39), (.tmp 40)])⟩,
                 ⟨(some 38), none, .p (.mv (.tmp 41))⟩,
                 ⟨(some 42), none, .p (.extract 0 (.tmp 38))⟩,
                 ⟨(some 43), none, .p (.extract 1 (.tmp 38))⟩,
                 ⟨(some 14), none, .p (.mv (.tmp 42))⟩,
                 ⟨(some 15), none, .p (.mv (.tmp 43))⟩])
              (.seq
               (.seq
                (.region [⟨(some 44), none, .p (.mv (.tmp 12))⟩,
                   ⟨(some 45), none, .p (.ibin .eql (.tmp 44) (.const (.int .i64 0)))⟩])
                (.cond (.tmp 45)
                 (.region [⟨(some 46), none, .p (.mv (.tmp 14))⟩,
                    ⟨(some 7), none, .p (.mv (.tmp 46))⟩])
                 .skip))
               (.seq
                (.region [⟨(some 47), none, .p (.mv (.tmp 14))⟩,
                   ⟨(some 48), none, .p (.mv (.tmp 7))⟩,
                   ⟨(some 49), none, .p (.ibin .neq (.tmp 47) (.tmp 48))⟩,
                   ⟨(some 50), none, .p (.mv (.tmp 49))⟩,
                   ⟨(some 51), (some (50, false)), .p (.mv (.tmp 1))⟩,
                   ⟨(some 52), (some (50, false)), .p (.mv (.tmp 14))⟩,
                   ⟨(some 53), (some (50, false)), .w (.callv (.tmp 51) [(.tmp 52)])⟩,
                   ⟨(some 54), (some (50, false)), .p (.not (.tmp 53))⟩,
                   ⟨(some 55), none, .p (.pick (.tmp 50) (.const (.bool true)) (.tmp 54))⟩])
                (.cond (.tmp 55)
                 (.seq
                  (.region [⟨(some 6), none, .p (.mv (.const (.int .i64 10)))⟩])
                  .ret)
                 .skip))))))
           (.region [⟨(some 56), none, .p (.ibin .add (.tmp 33) (.const (.int .i64 1)))⟩,
              ⟨(some 33), none, .p (.mv (.tmp 56))⟩])))))))
     (.seq
      (.region [⟨(some 6), none, .p (.mv (.const (.int .i64 0)))⟩])
      .ret))))), [.tmp 6]⟩
theorem comp62 : compFunc Try.prog 62 = some a62 := by kernel_rfl
theorem callable62 : callable Try.prog 62 = true := by kernel_rfl

/-- treadle/verify.any -/
def a64 : AFunc := ⟨1, (.seq
  (.region [⟨(some 2), none, .p (.mv (.const (.bool false)))⟩])
  (.seq
   (.region [⟨(some 2), none, .p (.mv (.const (.bool true)))⟩])
   .ret)), [.tmp 2]⟩
theorem comp64 : compFunc Try.prog 64 = some a64 := by kernel_rfl
theorem callable64 : callable Try.prog 64 = true := by kernel_rfl

/-- (*treadle/verify.checker).jump -/
def a66 : AFunc := ⟨2, (.seq
  (.region [⟨(some 3), none, .w (.box 38 (.tmp 1))⟩,
     ⟨(some 4), none, .p (.mv (.const (.int .i64 0)))⟩])
  (.seq
   (.region [⟨(some 7), none, .p (.fieldA 1 (.tmp 3))⟩,
      ⟨(some 8), none, .r1 (.tmp 7)⟩,
      ⟨(some 5), none, .p (.mv (.tmp 8))⟩])
   (.seq
    (.seq
     (.region [⟨(some 9), none, .p (.fieldA 0 (.tmp 3))⟩,
        ⟨(some 10), none, .r1 (.tmp 9)⟩,
        ⟨(some 11), none, .p (.ibin .eql (.tmp 10) (.const (.int .i64 25)))⟩])
     (.cond (.tmp 11)
      (.seq
       (.seq
        (.region [⟨(some 12), none, .p (.mv (.tmp 0))⟩,
           ⟨(some 13), none, .p (.fieldA 1 (.tmp 3))⟩,
           ⟨(some 14), none, .r1 (.tmp 13)⟩,
           ⟨(some 15), none, .w (.bslice 3 2 [.int .i64 0] [(0, 1, (.tmp 14)), (1, 1, (.const (.int .i64 0)))])⟩,
           ⟨(some 16), none, .w (.call 65 [(.tmp 12), (.tmp 15)])⟩,
           ⟨(some 6), none, .p (.mv (.tmp 16))⟩])
        (.seq
         (.region [⟨(some 17), none, .p (.mv (.tmp 6))⟩,
            ⟨(some 18), none, .p (.ibin .neq (.tmp 17) (.const (.int .i64 0)))⟩])
         (.cond (.tmp 18)
          (.seq
           (.region [⟨(some 19), none, .p (.mv (.tmp 6))⟩,
              ⟨(some 4), none, .p (.mv (.tmp 19))⟩])
           .ret)
          .skip)))
       (.region [⟨(some 20), none, .p (.fieldA 2 (.tmp 3))⟩,
          ⟨(some 21), none, .r1 (.tmp 20)⟩,
          ⟨(some 5), none, .p (.mv (.tmp 21))⟩]))
      .skip))
    (.seq
     (.seq
      (.region [⟨(some 22), none, .p (.mv (.tmp 5))⟩,
         ⟨(some 23), none, .p (.ibin .lss (.tmp 22) (.const (.int .i64 0)))⟩,
         ⟨(some 24), none, .p (.mv (.tmp 23))⟩,
         ⟨(some 25), (some (24, false)), .p (.mv (.tmp 5))⟩,
         ⟨(some 26), (some (24, false)), .p (.mv (.tmp 0))⟩,
         ⟨(some 27), (some (24, false)), .p (.nilck (.tmp 26))⟩,
         ⟨(some 28), (some (24, false)), .p (.fieldA 3 (.tmp 27))⟩,
         ⟨(some 29), (some (24, false)), .p (.fieldA 3 (.tmp 28))⟩,
         ⟨(some 30), (some (24, false)), .r1 (.tmp 29)⟩,
         ⟨(some 31), (some (24, false)), .p (.len false (.tmp 30))⟩,
         ⟨(some 32), (some (24, false)), .p (.ibin .geq (.tmp 25) (.tmp 31))⟩,
         ⟨(some 33), none, .p (.pick (.tmp 24) (.const (.bool true)) (.tmp 32))⟩])
      (.cond (.tmp 33)
       (.seq
        (.region [⟨(some 4), none, .p (.mv (.const (.int .i64 12)))⟩])
        .ret)
       .skip))
     (.seq
      (.region [⟨(some 4), none, .p (.mv (.const (.int .i64 0)))⟩])
      .ret))))), [.tmp 4]⟩
theorem comp66 : compFunc Try.prog 66 = some a66 := by kernel_rfl
theorem callable66 : callable Try.prog 66 = true := by kernel_rfl

/-- (*treadle/verify.checker).calls -/
def a68 : AFunc := ⟨2, (.seq
  (.region [⟨(some 3), none, .w (.box 38 (.tmp 1))⟩,
     ⟨(some 4), none, .p (.mv (.const (.int .i64 0)))⟩])
  (.seq
   (.seq
    (.region [⟨(some 10), none, .p (.fieldA 0 (.tmp 3))⟩,
       ⟨(some 11), none, .r1 (.tmp 10)⟩,
       ⟨(some 12), none, .p (.ibin .eql (.tmp 11) (.const (.int .i64 36)))⟩])
    (.cond (.tmp 12)
     (.seq
      (.draw [⟨0, ⟨(some 13), none, .p (.mv (.tmp 0))⟩, []⟩,
         ⟨1, ⟨(some 14), none, .p (.fieldA 5 (.tmp 3))⟩, []⟩,
         ⟨2, ⟨(some 15), none, .r1 (.tmp 14)⟩, []⟩,
         ⟨3, ⟨(some 16), none, .p (.mv (.tmp 0))⟩, []⟩,
         ⟨4, ⟨(some 17), none, .p (.nilck (.tmp 16))⟩, []⟩,
         ⟨5, ⟨(some 18), none, .p (.fieldA 3 (.tmp 17))⟩, []⟩,
         ⟨6, ⟨(some 19), none, .p (.fieldA 2 (.tmp 18))⟩, []⟩,
         ⟨7, ⟨(some 20), none, .r1 (.tmp 19)⟩, []⟩,
         ⟨8, ⟨(some 21), none, .w (.call 86 [(.tmp 13), (.tmp 15), (.tmp 20)])⟩, []⟩,
         ⟨9, ⟨(some 4), none, .p (.mv (.tmp 21))⟩, []⟩])
      .ret)
     .skip))
   (.seq
    (.seq
     (.draw [⟨0, ⟨(some 22), none, .p (.fieldA 1 (.tmp 3))⟩, []⟩,
        ⟨1, ⟨(some 23), none, .r1 (.tmp 22)⟩, []⟩,
        ⟨2, ⟨(some 24), none, .p (.ibin .lss (.tmp 23) (.const (.int .i64 0)))⟩, []⟩,
        ⟨3, ⟨(some 25), none, .p (.mv (.tmp 24))⟩, []⟩,
        ⟨4, ⟨(some 26), (some (25, false)), .p (.fieldA 1 (.tmp 3))⟩, []⟩,
        ⟨5, ⟨(some 27), (some (25, false)), .r1 (.tmp 26)⟩, []⟩,
        ⟨6, ⟨(some 28), (some (25, false)), .p (.mv (.tmp 0))⟩, []⟩,
        ⟨7, ⟨(some 29), (some (25, false)), .p (.nilck (.tmp 28))⟩, []⟩,
        ⟨8, ⟨(some 30), (some (25, false)), .p (.fieldA 0 (.tmp 29))⟩, []⟩,
        ⟨9, ⟨(some 31), (some (25, false)), .p (.fieldA 2 (.tmp 30))⟩, []⟩,
        ⟨10, ⟨(some 32), (some (25, false)), .r1 (.tmp 31)⟩, []⟩,
        ⟨11, ⟨(some 33), (some (25, false)), .p (.len false (.tmp 32))⟩, []⟩,
        ⟨12, ⟨(some 34), (some (25, false)), .p (.ibin .geq (.tmp 27) (.tmp 33))⟩, []⟩,
        ⟨13, ⟨(some 35), none, .p (.pick (.tmp 25) (.const (.bool true)) (.tmp 34))⟩, []⟩])
     (.cond (.tmp 35)
      (.seq
       (.region [⟨(some 4), none, .p (.mv (.const (.int .i64 13)))⟩])
       .ret)
      .skip))
    (.seq
     (.draw [⟨0, ⟨(some 36), none, .p (.mv (.tmp 0))⟩, []⟩,
        ⟨1, ⟨(some 37), none, .p (.nilck (.tmp 36))⟩, []⟩,
        ⟨2, ⟨(some 38), none, .p (.fieldA 0 (.tmp 37))⟩, []⟩,
        ⟨3, ⟨(some 39), none, .p (.fieldA 2 (.tmp 38))⟩, []⟩,
        ⟨4, ⟨(some 40), none, .r1 (.tmp 39)⟩, []⟩,
        ⟨5, ⟨(some 41), none, .p (.fieldA 1 (.tmp 3))⟩, []⟩,
        ⟨6, ⟨(some 42), none, .r1 (.tmp 41)⟩, []⟩,
        ⟨7, ⟨(some 43), none, .p (.idxSl 4 (.tmp 40) (.tmp 42))⟩, []⟩,
        ⟨8, ⟨(some 44), none, .rN 4 (.tmp 43)⟩, []⟩,
        ⟨9, ⟨(some 5), none, .w (.alloc 64 [.int .i64 0, .slice none 0 0, .slice none 0 0, .slice none 0 0])⟩, []⟩,
        ⟨10, ⟨none, none, .w (.stN 4 (.tmp 5) (.tmp 44))⟩, []⟩])
     (.seq
      (.region [⟨(some 45), none, .p (.fieldA 1 (.tmp 5))⟩,
         ⟨(some 46), none, .r1 (.tmp 45)⟩,
         ⟨(some 47), none, .p (.fieldA 0 (.tmp 5))⟩,
         ⟨(some 48), none, .r1 (.tmp 47)⟩,
         ⟨(some 49), none, .p (.slc 1 (.tmp 46) none (some (.tmp 48)))⟩,
         ⟨(some 6), none, .p (.mv (.tmp 49))⟩])
      (.seq
       (.seq
        (.region [⟨(some 50), none, .p (.fieldA 0 (.tmp 3))⟩,
           ⟨(some 51), none, .r1 (.tmp 50)⟩,
           ⟨(some 52), none, .p (.ibin .neq (.tmp 51) (.const (.int .i64 35)))⟩])
        (.cond (.tmp 52)
         (.seq
          (.seq
           (.region [⟨(some 53), none, .p (.fieldA 2 (.tmp 5))⟩,
              ⟨(some 54), none, .r1 (.tmp 53)⟩,
              ⟨(some 55), none, .p (.len false (.tmp 54))⟩,
              ⟨(some 56), none, .p (.ibin .neq (.tmp 55) (.const (.int .i64 0)))⟩])
           (.cond (.tmp 56)
            (.seq
             (.region [⟨(some 4), none, .p (.mv (.const (.int .i64 13)))⟩])
             .ret)
            .skip))
          (.seq
           (.seq
            (.region [⟨(some 57), none, .p (.mv (.tmp 6))⟩,
               ⟨(some 58), none, .p (.len false (.tmp 57))⟩,
               ⟨(some 59), none, .p (.mv (.const (.int .i64 0)))⟩])
            (.block 0
             (.loop
              (.seq
               (.region [⟨(some 60), none, .p (.ibin .lss (.tmp 59) (.tmp 58))⟩])
               (.seq
                (.cond (.tmp 60)
                 .skip
                 (.exit 0))
                (.seq
                 (.block 1
                  (.seq
                   (.region [⟨(some 61), none, .p (.idxSl 1 (.tmp 57) (.tmp 59))⟩,
                      ⟨(some 62), none, .r1 (.tmp 61)⟩,
                      ⟨(some 8), none, .p (.mv (.tmp 62))⟩])
                   (.seq
                    (.region [⟨(some 63), none, .p (.mv (.tmp 8))⟩,
                       ⟨(some 64), none, .p (.ibin .eql (.tmp 63) (.const (.int .i64 2)))⟩])
                    (.cond (.tmp 64)
                     (.seq
                      (.region [⟨(some 4), none, .p (.mv (.const (.int .i64 10)))⟩])
                      .ret)
                     .skip))))
                 (.region [⟨(some 65), none, .p (.ibin .add (.tmp 59) (.const (.int .i64 1)))⟩,
                    ⟨(some 59), none, .p (.mv (.tmp 65))⟩])))))))
           (.seq
            (.region [⟨(some 66), none, .p (.mv (.tmp 0))⟩,
               ⟨(some 67), none, .p (.fieldA 5 (.tmp 3))⟩,
               ⟨(some 68), none, .r1 (.tmp 67)⟩,
               ⟨(some 69), none, .p (.mv (.tmp 6))⟩,
               ⟨(some 70), none, .w (.call 86 [(.tmp 66), (.tmp 68), (.tmp 69)])⟩,
               ⟨(some 4), none, .p (.mv (.tmp 70))⟩])
            .ret)))
         .skip))
       (.seq
        (.draw [⟨0, ⟨(some 71), none, .p (.mv (.tmp 6))⟩, []⟩,
           ⟨2, ⟨(some 73), none, .p (.fieldA 2 (.tmp 5))⟩, []⟩,
           ⟨3, ⟨(some 74), none, .r1 (.tmp 73)⟩, []⟩,
           ⟨1, ⟨(some 72), none, .w (.app 59 8 [.int .i64 0] (.const (.slice none 0 0)) (.tmp 71))⟩, [3]⟩,
           ⟨4, ⟨(some 75), none, .w (.app 59 8 [.int .i64 0] (.tmp 72) (.tmp 74))⟩, []⟩,
           ⟨5, ⟨(some 9), none, .p (.mv (.tmp 75))⟩, []⟩])
        (.seq
         (.region [⟨(some 76), none, .p (.mv (.tmp 0))⟩,
            ⟨(some 77), none, .p (.fieldA 5 (.tmp 3))⟩,
            ⟨(some 78), none, .r1 (.tmp 77)⟩,
            ⟨(some 79), none, .p (.mv (.tmp 9))⟩,
            ⟨(some 80), none, .w (.call 86 [(.tmp 76), (.tmp 78), (.tmp 79)])⟩,
            ⟨(some 4), none, .p (.mv (.tmp 80))⟩])
         .ret)))))))), [.tmp 4]⟩
theorem comp68 : compFunc Try.prog 68 = some a68 := by kernel_rfl
theorem callable68 : callable Try.prog 68 = true := by kernel_rfl

/-- (*treadle/ideal.Ideal).run -/
def a70 : AFunc := ⟨4, (.seq
  (.region [⟨(some 11), none, .p (.mv (.tmp 2))⟩,
     ⟨(some 12), none, .p (.nilck (.tmp 11))⟩,
     ⟨(some 13), none, .p (.fieldA 5 (.tmp 12))⟩,
     ⟨(some 14), none, .r1 (.tmp 13)⟩,
     ⟨(some 15), none, .p (.len false (.tmp 14))⟩,
     ⟨(some 16), none, .p (.ibin .sub (.tmp 15) (.const (.int .i64 1)))⟩,
     ⟨(some 8), none, .p (.mv (.tmp 16))⟩])
  (.seq
   (.region [⟨(some 17), none, .p (.mv (.tmp 2))⟩,
      ⟨(some 18), none, .p (.nilck (.tmp 17))⟩,
      ⟨(some 19), none, .p (.fieldA 5 (.tmp 18))⟩,
      ⟨(some 20), none, .r1 (.tmp 19)⟩,
      ⟨(some 21), none, .p (.mv (.tmp 8))⟩,
      ⟨(some 22), none, .p (.idxSl 2 (.tmp 20) (.tmp 21))⟩,
      ⟨(some 23), none, .rN 2 (.tmp 22)⟩,
      ⟨(some 9), none, .w (.alloc 123 [.int .i64 0, .slice none 0 0])⟩,
      ⟨none, none, .w (.stN 2 (.tmp 9) (.tmp 23))⟩])
   (.seq
    (.region [⟨(some 24), none, .p (.mv (.tmp 2))⟩,
       ⟨(some 25), none, .p (.mv (.tmp 2))⟩,
       ⟨(some 26), none, .p (.nilck (.tmp 25))⟩,
       ⟨(some 27), none, .p (.fieldA 5 (.tmp 26))⟩,
       ⟨(some 28), none, .r1 (.tmp 27)⟩,
       ⟨(some 29), none, .p (.mv (.tmp 8))⟩,
       ⟨(some 30), none, .p (.slc 2 (.tmp 28) none (some (.tmp 29)))⟩,
       ⟨(some 31), none, .p (.nilck (.tmp 24))⟩,
       ⟨(some 32), none, .p (.fieldA 5 (.tmp 31))⟩,
       ⟨none, none, .w (.st1 (.tmp 32) (.tmp 30))⟩])
    (.seq
     (.region [⟨(some 33), none, .p (.mv (.tmp 0))⟩,
        ⟨(some 34), none, .p (.fieldA 0 (.tmp 9))⟩,
        ⟨(some 35), none, .r1 (.tmp 34)⟩,
        ⟨(some 36), none, .p (.fieldA 1 (.tmp 9))⟩,
        ⟨(some 37), none, .r1 (.tmp 36)⟩,
        ⟨(some 38), none, .w (.call 45 [(.tmp 33), (.tmp 35), (.tmp 37)])⟩,
        ⟨(some 10), none, .p (.mv (.tmp 38))⟩])
     (.seq
      (.region [⟨(some 39), none, .p (.mv (.tmp 10))⟩,
         ⟨(some 40), none, .p (.mv (.tmp 3))⟩,
         ⟨(some 41), none, .p (.nilck (.tmp 39))⟩,
         ⟨(some 42), none, .p (.fieldA 6 (.tmp 41))⟩,
         ⟨none, none, .w (.st1 (.tmp 42) (.tmp 40))⟩])
      (.region [⟨(some 43), none, .p (.mv (.tmp 1))⟩,
         ⟨(some 44), none, .p (.mv (.tmp 10))⟩,
         ⟨(some 45), none, .w (.call 44 [(.tmp 43), (.tmp 44)])⟩])))))), []⟩
theorem comp70 : compFunc Try.prog 70 = some a70 := by kernel_rfl
theorem callable70 : callable Try.prog 70 = true := by kernel_rfl

/-- treadle/flo.Equal -/
def a72 : AFunc := ⟨2, (.seq
  (.region [⟨(some 4), none, .p (.mv (.const (.bool false)))⟩])
  (.seq
   (.region [⟨(some 5), none, .p (.mv (.tmp 0))⟩,
      ⟨(some 6), none, .w (.call 34 [(.tmp 5)])⟩,
      ⟨(some 7), none, .p (.mv (.tmp 1))⟩,
      ⟨(some 8), none, .w (.call 34 [(.tmp 7)])⟩,
      ⟨(some 9), none, .w (.ext (.fcmp .eql) [(.tmp 6), (.tmp 8)])⟩,
      ⟨(some 4), none, .p (.mv (.tmp 9))⟩])
   .ret)), [.tmp 4]⟩
theorem comp72 : compFunc Try.prog 72 = some a72 := by kernel_rfl
theorem callable72 : callable Try.prog 72 = true := by kernel_rfl

/-- (*treadle/ideal.Ideal).add -/
def a74 : AFunc := ⟨2, (.seq
  (.region [⟨(some 3), none, .w (.box 99 (.tmp 1))⟩,
     ⟨(some 4), none, .p (.mv (.const (.int .u64 0)))⟩])
  (.seq
   (.draw [⟨0, ⟨(some 5), none, .p (.mv (.tmp 0))⟩, []⟩,
      ⟨1, ⟨(some 6), none, .p (.mv (.tmp 0))⟩, []⟩,
      ⟨2, ⟨(some 7), none, .p (.nilck (.tmp 6))⟩, []⟩,
      ⟨3, ⟨(some 8), none, .p (.fieldA 4 (.tmp 7))⟩, []⟩,
      ⟨4, ⟨(some 9), none, .r1 (.tmp 8)⟩, []⟩,
      ⟨5, ⟨(some 10), none, .rN 3 (.tmp 3)⟩, []⟩,
      ⟨6, ⟨(some 11), none, .w (.bslice 99 1 [.int .i64 0, .slice none 0 0, .pointer none] [(0, 3, (.tmp 10))])⟩, []⟩,
      ⟨7, ⟨(some 12), none, .w (.app 99 40 [.int .i64 0, .slice none 0 0, .pointer none] (.tmp 9) (.tmp 11))⟩, []⟩,
      ⟨8, ⟨(some 13), none, .p (.nilck (.tmp 5))⟩, []⟩,
      ⟨9, ⟨(some 14), none, .p (.fieldA 4 (.tmp 13))⟩, []⟩,
      ⟨10, ⟨none, none, .w (.st1 (.tmp 14) (.tmp 12))⟩, []⟩])
   (.seq
    (.region [⟨(some 15), none, .p (.mv (.tmp 0))⟩,
       ⟨(some 16), none, .p (.nilck (.tmp 15))⟩,
       ⟨(some 17), none, .p (.fieldA 4 (.tmp 16))⟩,
       ⟨(some 18), none, .r1 (.tmp 17)⟩,
       ⟨(some 19), none, .p (.len false (.tmp 18))⟩,
       ⟨(some 20), none, .p (.ibin .sub (.tmp 19) (.const (.int .i64 1)))⟩,
       ⟨(some 21), none, .p (.conv .u64 (.tmp 20))⟩,
       ⟨(some 4), none, .p (.mv (.tmp 21))⟩])
    .ret))), [.tmp 4]⟩
theorem comp74 : compFunc Try.prog 74 = some a74 := by kernel_rfl
theorem callable74 : callable Try.prog 74 = true := by kernel_rfl

/-- (*treadle/ideal.Ideal).leave -/
def a76 : AFunc := ⟨2, (.block 0
  (.loop
   (.block 1
    (.seq
     (.region [⟨(some 8), none, .p (.mv (.tmp 1))⟩,
        ⟨(some 9), none, .w (.call 29 [(.tmp 8)])⟩,
        ⟨(some 4), none, .p (.mv (.tmp 9))⟩])
     (.seq
      (.seq
       (.region [⟨(some 10), none, .p (.mv (.tmp 4))⟩,
          ⟨(some 11), none, .p (.nilck (.tmp 10))⟩,
          ⟨(some 12), none, .p (.fieldA 5 (.tmp 11))⟩,
          ⟨(some 13), none, .r1 (.tmp 12)⟩,
          ⟨(some 14), none, .p (.len false (.tmp 13))⟩,
          ⟨(some 15), none, .p (.ibin .gtr (.tmp 14) (.const (.int .i64 0)))⟩])
       (.cond (.tmp 15)
        (.seq
         (.region [⟨(some 16), none, .p (.mv (.tmp 0))⟩,
            ⟨(some 17), none, .p (.mv (.tmp 1))⟩,
            ⟨(some 18), none, .p (.mv (.tmp 4))⟩,
            ⟨(some 19), none, .w (.call 70 [(.tmp 16), (.tmp 17), (.tmp 18), (.const (.int .i64 1))])⟩])
         .ret)
        .skip))
      (.seq
       (.draw [⟨0, ⟨(some 20), none, .p (.mv (.tmp 1))⟩, []⟩,
          ⟨1, ⟨(some 21), none, .p (.mv (.tmp 1))⟩, []⟩,
          ⟨2, ⟨(some 22), none, .p (.nilck (.tmp 21))⟩, []⟩,
          ⟨3, ⟨(some 23), none, .p (.fieldA 3 (.tmp 22))⟩, []⟩,
          ⟨4, ⟨(some 24), none, .r1 (.tmp 23)⟩, []⟩,
          ⟨5, ⟨(some 25), none, .p (.mv (.tmp 1))⟩, []⟩,
          ⟨6, ⟨(some 26), none, .p (.nilck (.tmp 25))⟩, []⟩,
          ⟨7, ⟨(some 27), none, .p (.fieldA 3 (.tmp 26))⟩, []⟩,
          ⟨8, ⟨(some 28), none, .r1 (.tmp 27)⟩, []⟩,
          ⟨9, ⟨(some 29), none, .p (.len false (.tmp 28))⟩, []⟩,
          ⟨10, ⟨(some 30), none, .p (.ibin .sub (.tmp 29) (.const (.int .i64 1)))⟩, []⟩,
          ⟨11, ⟨(some 31), none, .p (.slc 1 (.tmp 24) none (some (.tmp 30)))⟩, []⟩,
          ⟨12, ⟨(some 32), none, .p (.nilck (.tmp 20))⟩, []⟩,
          ⟨13, ⟨(some 33), none, .p (.fieldA 3 (.tmp 32))⟩, []⟩,
          ⟨14, ⟨none, none, .w (.st1 (.tmp 33) (.tmp 31))⟩, []⟩])
       (.seq
        (.seq
         (.region [⟨(some 34), none, .p (.mv (.tmp 1))⟩,
            ⟨(some 35), none, .p (.nilck (.tmp 34))⟩,
            ⟨(some 36), none, .p (.fieldA 3 (.tmp 35))⟩,
            ⟨(some 37), none, .r1 (.tmp 36)⟩,
            ⟨(some 38), none, .p (.len false (.tmp 37))⟩,
            ⟨(some 39), none, .p (.ibin .eql (.tmp 38) (.const (.int .i64 0)))⟩])
         (.cond (.tmp 39)
          (.seq
           (.region [⟨(some 40), none, .p (.mv (.tmp 1))⟩,
              ⟨(some 41), none, .p (.nilck (.tmp 40))⟩,
              ⟨(some 42), none, .p (.fieldA 0 (.tmp 41))⟩,
              ⟨none, none, .w (.st1 (.tmp 42) (.const (.int .i64 3)))⟩])
           (.seq
            (.seq
             (.region [⟨(some 43), none, .p (.mv (.tmp 0))⟩,
                ⟨(some 44), none, .p (.nilck (.tmp 43))⟩,
                ⟨(some 45), none, .p (.fieldA 9 (.tmp 44))⟩,
                ⟨(some 46), none, .r1 (.tmp 45)⟩,
                ⟨(some 47), none, .p (.ibin .eql (.tmp 46) (.const (.int .i64 0)))⟩])
             (.cond (.tmp 47)
              (.region [⟨(some 48), none, .p (.mv (.tmp 0))⟩,
                 ⟨(some 49), none, .w (.call 32 [(.tmp 48), (.const (.int .i64 3)), (.const (.int .u64 0))])⟩])
              .skip))
            .ret))
          .skip))
        (.seq
         (.region [⟨(some 50), none, .p (.mv (.tmp 1))⟩,
            ⟨(some 51), none, .w (.call 29 [(.tmp 50)])⟩,
            ⟨(some 5), none, .p (.mv (.tmp 51))⟩])
         (.block 2
          (.seq
           (.region [⟨(some 53), none, .p (.mv (.tmp 4))⟩,
              ⟨(some 54), none, .p (.nilck (.tmp 53))⟩,
              ⟨(some 55), none, .p (.fieldA 6 (.tmp 54))⟩,
              ⟨(some 56), none, .r1 (.tmp 55)⟩,
              ⟨(some 57), none, .p (.ibin .eql (.tmp 56) (.const (.int .i64 0)))⟩,
              ⟨(some 52), none, .p (.mv (.tmp 57))⟩])
           (.cond (.tmp 52)
            (.seq
             (.seq
              (.region [⟨(some 58), none, .p (.mv (.tmp 4))⟩,
                 ⟨(some 59), none, .p (.nilck (.tmp 58))⟩,
                 ⟨(some 60), none, .p (.fieldA 4 (.tmp 59))⟩,
                 ⟨(some 61), none, .r1 (.tmp 60)⟩,
                 ⟨(some 62), none, .p (.len false (.tmp 61))⟩,
                 ⟨(some 63), none, .p (.mv (.const (.int .i64 0)))⟩])
              (.block 3
               (.loop
                (.seq
                 (.region [⟨(some 64), none, .p (.ibin .lss (.tmp 63) (.tmp 62))⟩])
                 (.seq
                  (.cond (.tmp 64)
                   .skip
                   (.exit 3))
                  (.seq
                   (.block 4
                    (.seq
                     (.region [⟨(some 65), none, .p (.mv (.tmp 63))⟩,
                        ⟨(some 66), none, .p (.idxSl 1 (.tmp 61) (.tmp 63))⟩,
                        ⟨(some 67), none, .r1 (.tmp 66)⟩,
                        ⟨(some 6), none, .p (.mv (.tmp 65))⟩,
                        ⟨(some 7), none, .p (.mv (.tmp 67))⟩])
                     (.draw [⟨0, ⟨(some 68), none, .p (.mv (.tmp 5))⟩, []⟩,
                        ⟨1, ⟨(some 69), none, .p (.nilck (.tmp 68))⟩, []⟩,
                        ⟨2, ⟨(some 70), none, .p (.fieldA 3 (.tmp 69))⟩, []⟩,
                        ⟨3, ⟨(some 71), none, .r1 (.tmp 70)⟩, []⟩,
                        ⟨4, ⟨(some 72), none, .p (.mv (.tmp 7))⟩, []⟩,
                        ⟨5, ⟨(some 73), none, .p (.mv (.tmp 4))⟩, []⟩,
                        ⟨6, ⟨(some 74), none, .p (.nilck (.tmp 73))⟩, []⟩,
                        ⟨7, ⟨(some 75), none, .p (.fieldA 8 (.tmp 74))⟩, []⟩,
                        ⟨8, ⟨(some 76), none, .r1 (.tmp 75)⟩, []⟩,
                        ⟨9, ⟨(some 77), none, .p (.mv (.tmp 6))⟩, []⟩,
                        ⟨10, ⟨(some 78), none, .p (.idxSl 1 (.tmp 76) (.tmp 77))⟩, []⟩,
                        ⟨11, ⟨(some 79), none, .r1 (.tmp 78)⟩, []⟩,
                        ⟨12, ⟨(some 80), none, .p (.idxSl 1 (.tmp 71) (.tmp 72))⟩, []⟩,
                        ⟨13, ⟨none, none, .w (.st1 (.tmp 80) (.tmp 79))⟩, []⟩])))
                   (.region [⟨(some 81), none, .p (.ibin .add (.tmp 63) (.const (.int .i64 1)))⟩,
                      ⟨(some 63), none, .p (.mv (.tmp 81))⟩])))))))
             .ret)
            (.seq
             (.region [⟨(some 83), none, .p (.mv (.tmp 4))⟩,
                ⟨(some 84), none, .p (.nilck (.tmp 83))⟩,
                ⟨(some 85), none, .p (.fieldA 6 (.tmp 84))⟩,
                ⟨(some 86), none, .r1 (.tmp 85)⟩,
                ⟨(some 87), none, .p (.ibin .eql (.tmp 86) (.const (.int .i64 2)))⟩,
                ⟨(some 88), none, .p (.mv (.tmp 87))⟩,
                ⟨(some 89), (some (88, true)), .p (.mv (.tmp 1))⟩,
                ⟨(some 90), (some (88, true)), .p (.nilck (.tmp 89))⟩,
                ⟨(some 91), (some (88, true)), .p (.fieldA 5 (.tmp 90))⟩,
                ⟨(some 92), (some (88, true)), .r1 (.tmp 91)⟩,
                ⟨(some 93), none, .p (.pick (.tmp 88) (.tmp 92) (.const (.bool false)))⟩,
                ⟨(some 82), none, .p (.mv (.tmp 93))⟩])
             (.cond (.tmp 82)
              (.seq
               (.region [⟨(some 94), none, .p (.mv (.tmp 0))⟩,
                  ⟨(some 95), none, .p (.mv (.tmp 1))⟩,
                  ⟨(some 96), none, .w (.call 46 [(.tmp 94), (.tmp 95)])⟩])
               .ret)
              (.seq
               (.region [⟨(some 98), none, .p (.mv (.tmp 4))⟩,
                  ⟨(some 99), none, .p (.nilck (.tmp 98))⟩,
                  ⟨(some 100), none, .p (.fieldA 6 (.tmp 99))⟩,
                  ⟨(some 101), none, .r1 (.tmp 100)⟩,
                  ⟨(some 102), none, .p (.ibin .eql (.tmp 101) (.const (.int .i64 2)))⟩,
                  ⟨(some 97), none, .p (.mv (.tmp 102))⟩])
               (.cond (.tmp 97)
                (.draw [⟨0, ⟨(some 103), none, .p (.mv (.tmp 5))⟩, []⟩,
                   ⟨1, ⟨(some 104), none, .p (.mv (.tmp 5))⟩, []⟩,
                   ⟨2, ⟨(some 105), none, .p (.mv (.tmp 0))⟩, []⟩,
                   ⟨3, ⟨(some 106), none, .p (.nilck (.tmp 105))⟩, []⟩,
                   ⟨4, ⟨(some 107), none, .p (.fieldA 0 (.tmp 106))⟩, []⟩,
                   ⟨5, ⟨(some 108), none, .p (.fieldA 2 (.tmp 107))⟩, []⟩,
                   ⟨6, ⟨(some 109), none, .r1 (.tmp 108)⟩, []⟩,
                   ⟨7, ⟨(some 110), none, .p (.mv (.tmp 5))⟩, []⟩,
                   ⟨8, ⟨(some 111), none, .p (.nilck (.tmp 110))⟩, []⟩,
                   ⟨9, ⟨(some 112), none, .p (.fieldA 0 (.tmp 111))⟩, []⟩,
                   ⟨10, ⟨(some 113), none, .r1 (.tmp 112)⟩, []⟩,
                   ⟨11, ⟨(some 114), none, .p (.idxSl 4 (.tmp 109) (.tmp 113))⟩, []⟩,
                   ⟨12, ⟨(some 115), none, .p (.fieldA 2 (.tmp 114))⟩, []⟩,
                   ⟨13, ⟨(some 116), none, .r1 (.tmp 115)⟩, []⟩,
                   ⟨14, ⟨(some 117), none, .p (.len false (.tmp 116))⟩, []⟩,
                   ⟨16, ⟨(some 119), none, .p (.nilck (.tmp 103))⟩, []⟩,
                   ⟨17, ⟨(some 120), none, .p (.fieldA 7 (.tmp 119))⟩, []⟩,
                   ⟨18, ⟨none, none, .w (.st1 (.tmp 120) (.const (.bool true)))⟩, []⟩,
                   ⟨15, ⟨(some 118), none, .w (.mksl 35 8 [.int .u64 0] (.tmp 117) (.tmp 117))⟩, []⟩,
                   ⟨19, ⟨(some 121), none, .p (.nilck (.tmp 104))⟩, []⟩,
                   ⟨20, ⟨(some 122), none, .p (.fieldA 8 (.tmp 121))⟩, []⟩,
                   ⟨21, ⟨none, none, .w (.st1 (.tmp 122) (.tmp 118))⟩, []⟩])
                .skip))))))))))))))), []⟩
theorem comp76 : compFunc Try.prog 76 = some a76 := by kernel_rfl
theorem callable76 : callable Try.prog 76 = true := by kernel_rfl

/-- (*treadle/ideal.Ideal).close -/
def a78 : AFunc := ⟨2, (.seq
  (.region [⟨(some 9), none, .p (.mv (.tmp 0))⟩,
     ⟨(some 10), none, .p (.mv (.tmp 1))⟩,
     ⟨(some 11), none, .w (.call 79 [(.tmp 9), (.tmp 10)])⟩,
     ⟨(some 4), none, .p (.mv (.tmp 11))⟩])
  (.seq
   (.seq
    (.region [⟨(some 12), none, .p (.mv (.tmp 4))⟩,
       ⟨(some 13), none, .p (.eqp false (.tmp 12) (.const (.pointer none)))⟩])
    (.cond (.tmp 13)
     (.seq
      (.region [⟨(some 14), none, .p (.mv (.tmp 0))⟩,
         ⟨(some 15), none, .w (.call 28 [(.tmp 14), (.const (.int .i64 (-1)))])⟩])
      .ret)
     .skip))
   (.seq
    (.region [⟨(some 17), none, .p (.mv (.tmp 4))⟩,
       ⟨(some 18), none, .w (.call 89 [(.tmp 17)])⟩,
       ⟨(some 16), none, .p (.mv (.tmp 18))⟩,
       ⟨(some 19), none, .p (.extract 0 (.tmp 16))⟩,
       ⟨(some 20), none, .p (.extract 1 (.tmp 16))⟩,
       ⟨(some 5), none, .p (.mv (.tmp 19))⟩,
       ⟨(some 6), none, .p (.mv (.tmp 20))⟩])
    (.seq
     (.seq
      (.region [⟨(some 21), none, .p (.mv (.tmp 6))⟩,
         ⟨(some 22), none, .p (.not (.tmp 21))⟩])
      (.cond (.tmp 22)
       (.seq
        (.region [⟨(some 23), none, .p (.mv (.tmp 0))⟩,
           ⟨(some 24), none, .w (.call 28 [(.tmp 23), (.const (.int .i64 (-4)))])⟩])
        .ret)
       .skip))
     (.seq
      (.region [⟨(some 25), none, .p (.mv (.tmp 5))⟩,
         ⟨(some 26), none, .p (.len false (.tmp 25))⟩,
         ⟨(some 27), none, .p (.mv (.const (.int .i64 0)))⟩])
      (.block 0
       (.loop
        (.seq
         (.region [⟨(some 28), none, .p (.ibin .lss (.tmp 27) (.tmp 26))⟩])
         (.seq
          (.cond (.tmp 28)
           .skip
           (.exit 0))
          (.seq
           (.block 1
            (.seq
             (.region [⟨(some 29), none, .p (.idxSl 1 (.tmp 25) (.tmp 27))⟩,
                ⟨(some 30), none, .r1 (.tmp 29)⟩,
                ⟨(some 8), none, .p (.mv (.tmp 30))⟩])
             (.region [⟨(some 31), none, .p (.mv (.tmp 0))⟩,
                ⟨(some 32), none, .p (.mv (.tmp 8))⟩,
                ⟨(some 33), none, .w (.call 90 [(.tmp 31), (.tmp 32), (.const (.int .u64 0)), (.const (.bool true))])⟩])))
           (.region [⟨(some 34), none, .p (.ibin .add (.tmp 27) (.const (.int .i64 1)))⟩,
              ⟨(some 27), none, .p (.mv (.tmp 34))⟩]))))))))))), []⟩
theorem comp78 : compFunc Try.prog 78 = some a78 := by kernel_rfl
theorem callable78 : callable Try.prog 78 = true := by kernel_rfl

/-- (*treadle/ideal.Ideal).send -/
def a80 : AFunc := ⟨5, (.seq
  (.region [⟨(some 10), none, .p (.mv (.const (.bool false)))⟩])
  (.seq
   (.region [⟨(some 12), none, .p (.mv (.tmp 1))⟩,
      ⟨(some 13), none, .p (.mv (.tmp 2))⟩,
      ⟨(some 14), none, .p (.mv (.tmp 3))⟩,
      ⟨(some 15), none, .p (.mv (.tmp 4))⟩,
      ⟨(some 16), none, .w (.call 91 [(.tmp 12), (.tmp 13), (.tmp 14), (.tmp 15)])⟩,
      ⟨(some 11), none, .w (.alloc 159 [.int .i64 0, .int .i64 0, .int .u64 0])⟩,
      ⟨none, none, .w (.stN 3 (.tmp 11) (.tmp 16))⟩])
   (.seq
    (.seq
     (.region [⟨(some 17), none, .p (.fieldA 0 (.tmp 11))⟩,
        ⟨(some 18), none, .r1 (.tmp 17)⟩])
     (.block 0
      (.seq
       (.region [⟨(some 20), none, .p (.ibin .eql (.tmp 18) (.const (.int .i64 2)))⟩,
          ⟨(some 19), none, .p (.mv (.tmp 20))⟩])
       (.cond (.tmp 19)
        (.region [⟨(some 21), none, .p (.mv (.tmp 0))⟩,
           ⟨(some 22), none, .p (.fieldA 1 (.tmp 11))⟩,
           ⟨(some 23), none, .r1 (.tmp 22)⟩,
           ⟨(some 24), none, .p (.mv (.tmp 3))⟩,
           ⟨(some 25), none, .w (.call 90 [(.tmp 21), (.tmp 23), (.tmp 24), (.const (.bool false))])⟩])
        (.seq
         (.region [⟨(some 27), none, .p (.ibin .eql (.tmp 18) (.const (.int .i64 4)))⟩,
            ⟨(some 26), none, .p (.mv (.tmp 27))⟩])
         (.cond (.tmp 26)
          (.region [⟨(some 28), none, .p (.mv (.tmp 0))⟩,
             ⟨(some 29), none, .w (.call 28 [(.tmp 28), (.const (.int .i64 (-4)))])⟩])
          .skip))))))
    (.seq
     (.region [⟨(some 30), none, .p (.fieldA 0 (.tmp 11))⟩,
        ⟨(some 31), none, .r1 (.tmp 30)⟩,
        ⟨(some 32), none, .p (.ibin .neq (.tmp 31) (.const (.int .i64 3)))⟩,
        ⟨(some 10), none, .p (.mv (.tmp 32))⟩])
     .ret)))), [.tmp 10]⟩
theorem comp80 : compFunc Try.prog 80 = some a80 := by kernel_rfl
theorem callable80 : callable Try.prog 80 = true := by kernel_rfl

/-- (*treadle/ideal.Ideal).receive -/
def a82 : AFunc := ⟨7, (.seq
  (.region [⟨(some 14), none, .p (.mv (.const (.bool false)))⟩])
  (.seq
   (.region [⟨(some 16), none, .p (.mv (.tmp 1))⟩,
      ⟨(some 17), none, .p (.mv (.tmp 2))⟩,
      ⟨(some 18), none, .p (.mv (.tmp 6))⟩,
      ⟨(some 19), none, .w (.call 92 [(.tmp 16), (.tmp 17), (.tmp 18)])⟩,
      ⟨(some 15), none, .w (.alloc 159 [.int .i64 0, .int .i64 0, .int .u64 0])⟩,
      ⟨none, none, .w (.stN 3 (.tmp 15) (.tmp 19))⟩])
   (.seq
    (.seq
     (.region [⟨(some 20), none, .p (.fieldA 0 (.tmp 15))⟩,
        ⟨(some 21), none, .r1 (.tmp 20)⟩,
        ⟨(some 22), none, .p (.ibin .eql (.tmp 21) (.const (.int .i64 3)))⟩])
     (.cond (.tmp 22)
      (.seq
       (.region [⟨(some 14), none, .p (.mv (.const (.bool false)))⟩])
       .ret)
      .skip))
    (.seq
     (.region [⟨(some 23), none, .p (.mv (.tmp 3))⟩,
        ⟨(some 24), none, .p (.mv (.tmp 4))⟩,
        ⟨(some 25), none, .p (.fieldA 2 (.tmp 15))⟩,
        ⟨(some 26), none, .r1 (.tmp 25)⟩,
        ⟨(some 27), none, .p (.idxSl 1 (.tmp 23) (.tmp 24))⟩,
        ⟨none, none, .w (.st1 (.tmp 27) (.tmp 26))⟩])
     (.seq
      (.seq
       (.region [⟨(some 28), none, .p (.mv (.tmp 5))⟩,
          ⟨(some 29), none, .p (.ibin .geq (.tmp 28) (.const (.int .i64 0)))⟩])
       (.cond (.tmp 29)
        (.region [⟨(some 30), none, .p (.mv (.tmp 3))⟩,
           ⟨(some 31), none, .p (.mv (.tmp 5))⟩,
           ⟨(some 32), none, .p (.fieldA 0 (.tmp 15))⟩,
           ⟨(some 33), none, .r1 (.tmp 32)⟩,
           ⟨(some 34), none, .p (.ibin .neq (.tmp 33) (.const (.int .i64 4)))⟩,
           ⟨(some 35), none, .w (.call 71 [(.tmp 34)])⟩,
           ⟨(some 36), none, .p (.idxSl 1 (.tmp 30) (.tmp 31))⟩,
           ⟨none, none, .w (.st1 (.tmp 36) (.tmp 35))⟩])
        .skip))
      (.seq
       (.seq
        (.region [⟨(some 37), none, .p (.fieldA 0 (.tmp 15))⟩,
           ⟨(some 38), none, .r1 (.tmp 37)⟩,
           ⟨(some 39), none, .p (.ibin .eql (.tmp 38) (.const (.int .i64 2)))⟩])
        (.cond (.tmp 39)
         (.region [⟨(some 40), none, .p (.mv (.tmp 0))⟩,
            ⟨(some 41), none, .p (.fieldA 1 (.tmp 15))⟩,
            ⟨(some 42), none, .r1 (.tmp 41)⟩,
            ⟨(some 43), none, .w (.call 90 [(.tmp 40), (.tmp 42), (.const (.int .u64 0)), (.const (.bool false))])⟩])
         .skip))
       (.seq
        (.region [⟨(some 14), none, .p (.mv (.const (.bool true)))⟩])
        .ret))))))), [.tmp 14]⟩
theorem comp82 : compFunc Try.prog 82 = some a82 := by kernel_rfl
theorem callable82 : callable Try.prog 82 = true := by kernel_rfl

/-- (*treadle/verify.checker).slot -/
def a84 : AFunc := ⟨2, (.seq
  (.region [⟨(some 4), none, .p (.mv (.const (.int .i64 0)))⟩,
     ⟨(some 5), none, .p (.mv (.const (.bool false)))⟩])
  (.seq
   (.seq
    (.region [⟨(some 6), none, .p (.mv (.tmp 1))⟩,
       ⟨(some 7), none, .p (.ibin .lss (.tmp 6) (.const (.int .i64 0)))⟩,
       ⟨(some 8), none, .p (.mv (.tmp 7))⟩,
       ⟨(some 9), (some (8, false)), .p (.mv (.tmp 1))⟩,
       ⟨(some 10), (some (8, false)), .p (.mv (.tmp 0))⟩,
       ⟨(some 11), (some (8, false)), .p (.nilck (.tmp 10))⟩,
       ⟨(some 12), (some (8, false)), .p (.fieldA 3 (.tmp 11))⟩,
       ⟨(some 13), (some (8, false)), .p (.fieldA 1 (.tmp 12))⟩,
       ⟨(some 14), (some (8, false)), .r1 (.tmp 13)⟩,
       ⟨(some 15), (some (8, false)), .p (.len false (.tmp 14))⟩,
       ⟨(some 16), (some (8, false)), .p (.ibin .geq (.tmp 9) (.tmp 15))⟩,
       ⟨(some 17), none, .p (.pick (.tmp 8) (.const (.bool true)) (.tmp 16))⟩])
    (.cond (.tmp 17)
     (.seq
      (.region [⟨(some 4), none, .p (.mv (.const (.int .i64 0)))⟩,
         ⟨(some 5), none, .p (.mv (.const (.bool false)))⟩])
      .ret)
     .skip))
   (.seq
    (.region [⟨(some 18), none, .p (.mv (.tmp 0))⟩,
       ⟨(some 19), none, .p (.nilck (.tmp 18))⟩,
       ⟨(some 20), none, .p (.fieldA 3 (.tmp 19))⟩,
       ⟨(some 21), none, .p (.fieldA 1 (.tmp 20))⟩,
       ⟨(some 22), none, .r1 (.tmp 21)⟩,
       ⟨(some 23), none, .p (.mv (.tmp 1))⟩,
       ⟨(some 24), none, .p (.idxSl 1 (.tmp 22) (.tmp 23))⟩,
       ⟨(some 25), none, .r1 (.tmp 24)⟩,
       ⟨(some 4), none, .p (.mv (.tmp 25))⟩,
       ⟨(some 5), none, .p (.mv (.const (.bool true)))⟩])
    .ret))), [.tmp 4, .tmp 5]⟩
theorem comp84 : compFunc Try.prog 84 = some a84 := by kernel_rfl
theorem callable84 : callable Try.prog 84 = true := by kernel_rfl

/-- (*treadle/verify.checker).list -/
def a86 : AFunc := ⟨3, (.seq
  (.region [⟨(some 6), none, .p (.mv (.const (.int .i64 0)))⟩])
  (.seq
   (.seq
    (.region [⟨(some 10), none, .p (.mv (.tmp 1))⟩,
       ⟨(some 11), none, .p (.len false (.tmp 10))⟩,
       ⟨(some 12), none, .p (.mv (.tmp 2))⟩,
       ⟨(some 13), none, .p (.len false (.tmp 12))⟩,
       ⟨(some 14), none, .p (.ibin .neq (.tmp 11) (.tmp 13))⟩])
    (.cond (.tmp 14)
     (.seq
      (.region [⟨(some 6), none, .p (.mv (.const (.int .i64 16)))⟩])
      .ret)
     .skip))
   (.seq
    (.region [⟨(some 7), none, .p (.mv (.const (.slice none 0 0)))⟩])
    (.seq
     (.seq
      (.region [⟨(some 15), none, .p (.mv (.tmp 1))⟩,
         ⟨(some 16), none, .p (.len false (.tmp 15))⟩,
         ⟨(some 17), none, .p (.mv (.const (.int .i64 0)))⟩])
      (.block 0
       (.loop
        (.seq
         (.region [⟨(some 18), none, .p (.ibin .lss (.tmp 17) (.tmp 16))⟩])
         (.seq
          (.cond (.tmp 18)
           .skip
           (.exit 0))
          (.seq
           (.block 1
            (.seq
             (.region [⟨(some 19), none, .p (.mv (.tmp 17))⟩,
                ⟨(some 20), none, .p (.idxSl 1 (.tmp 15) (.tmp 17))⟩,
                ⟨(some 21), none, .r1 (.tmp 20)⟩,
                ⟨(some 8), none, .p (.mv (.tmp 19))⟩,
                ⟨(some 9), none, .p (.mv (.tmp 21))⟩])
             (.region [⟨(some 22), none, .p (.mv (.tmp 7))⟩,
                ⟨(some 23), none, .p (.mv (.tmp 9))⟩,
                ⟨(some 24), none, .p (.mv (.tmp 2))⟩,
                ⟨(some 25), none, .p (.mv (.tmp 8))⟩,
                ⟨(some 26), none, .p (.idxSl 1 (.tmp 24) (.tmp 25))⟩,
                ⟨(some 27), none, .r1 (.tmp 26)⟩,
                ⟨(some 28), none, .w (.bslice 3 2 [.int .i64 0] [(0, 1, (.tmp 23)), (1, 1, (.tmp 27))])⟩,
                ⟨(some 29), none, .w (.app 3 8 [.int .i64 0] (.tmp 22) (.tmp 28))⟩,
                ⟨(some 7), none, .p (.mv (.tmp 29))⟩])))
           (.region [⟨(some 30), none, .p (.ibin .add (.tmp 17) (.const (.int .i64 1)))⟩,
              ⟨(some 17), none, .p (.mv (.tmp 30))⟩])))))))
     (.seq
      (.region [⟨(some 31), none, .p (.mv (.tmp 0))⟩,
         ⟨(some 32), none, .p (.mv (.tmp 7))⟩,
         ⟨(some 33), none, .w (.call 65 [(.tmp 31), (.tmp 32)])⟩,
         ⟨(some 6), none, .p (.mv (.tmp 33))⟩])
      .ret))))), [.tmp 6]⟩
theorem comp86 : compFunc Try.prog 86 = some a86 := by kernel_rfl
theorem callable86 : callable Try.prog 86 = true := by kernel_rfl

/-- (*treadle/verify.checker).choose -/
def a88 : AFunc := ⟨2, (.seq
  (.region [⟨(some 3), none, .w (.box 38 (.tmp 1))⟩,
     ⟨(some 4), none, .p (.mv (.const (.int .i64 0)))⟩])
  (.seq
   (.seq
    (.region [⟨(some 8), none, .p (.fieldA 2 (.tmp 3))⟩,
       ⟨(some 9), none, .r1 (.tmp 8)⟩,
       ⟨(some 10), none, .p (.ibin .lss (.tmp 9) (.const (.int .i64 0)))⟩,
       ⟨(some 11), none, .p (.mv (.tmp 10))⟩,
       ⟨(some 12), (some (11, false)), .p (.fieldA 2 (.tmp 3))⟩,
       ⟨(some 13), (some (11, false)), .r1 (.tmp 12)⟩,
       ⟨(some 14), (some (11, false)), .p (.ibin .gtr (.tmp 13) (.const (.int .i64 1)))⟩,
       ⟨(some 15), none, .p (.pick (.tmp 11) (.const (.bool true)) (.tmp 14))⟩,
       ⟨(some 16), none, .p (.mv (.tmp 15))⟩,
       ⟨(some 17), (some (16, false)), .p (.fieldA 5 (.tmp 3))⟩,
       ⟨(some 18), (some (16, false)), .r1 (.tmp 17)⟩,
       ⟨(some 19), (some (16, false)), .p (.len false (.tmp 18))⟩,
       ⟨(some 20), (some (16, false)), .p (.ibin .rem (.tmp 19) (.const (.int .i64 3)))⟩,
       ⟨(some 21), (some (16, false)), .p (.ibin .neq (.tmp 20) (.const (.int .i64 0)))⟩,
       ⟨(some 22), none, .p (.pick (.tmp 16) (.const (.bool true)) (.tmp 21))⟩])
    (.cond (.tmp 22)
     (.seq
      (.region [⟨(some 4), none, .p (.mv (.const (.int .i64 16)))⟩])
      .ret)
     .skip))
   (.seq
    (.seq
     (.region [⟨(some 5), none, .p (.mv (.const (.int .i64 0)))⟩])
     (.block 0
      (.loop
       (.seq
        (.seq
         (.region [⟨(some 23), none, .p (.mv (.tmp 5))⟩,
            ⟨(some 24), none, .p (.fieldA 5 (.tmp 3))⟩,
            ⟨(some 25), none, .r1 (.tmp 24)⟩,
            ⟨(some 26), none, .p (.len false (.tmp 25))⟩,
            ⟨(some 27), none, .p (.ibin .lss (.tmp 23) (.tmp 26))⟩])
         (.cond (.tmp 27)
          .skip
          (.exit 0)))
        (.seq
         (.block 1
          (.seq
           (.seq
            (.region [⟨(some 30), none, .p (.fieldA 5 (.tmp 3))⟩,
               ⟨(some 31), none, .r1 (.tmp 30)⟩,
               ⟨(some 32), none, .p (.mv (.tmp 5))⟩,
               ⟨(some 33), none, .p (.idxSl 1 (.tmp 31) (.tmp 32))⟩,
               ⟨(some 34), none, .r1 (.tmp 33)⟩,
               ⟨(some 35), none, .p (.ibin .neq (.tmp 34) (.const (.int .i64 0)))⟩,
               ⟨(some 36), none, .p (.mv (.tmp 35))⟩,
               ⟨(some 37), (some (36, true)), .p (.fieldA 5 (.tmp 3))⟩,
               ⟨(some 38), (some (36, true)), .r1 (.tmp 37)⟩,
               ⟨(some 39), (some (36, true)), .p (.mv (.tmp 5))⟩,
               ⟨(some 40), (some (36, true)), .p (.idxSl 1 (.tmp 38) (.tmp 39))⟩,
               ⟨(some 41), (some (36, true)), .r1 (.tmp 40)⟩,
               ⟨(some 42), (some (36, true)), .p (.ibin .neq (.tmp 41) (.const (.int .i64 1)))⟩,
               ⟨(some 43), none, .p (.pick (.tmp 36) (.tmp 42) (.const (.bool false)))⟩])
            (.cond (.tmp 43)
             (.seq
              (.region [⟨(some 4), none, .p (.mv (.const (.int .i64 8)))⟩])
              .ret)
             .skip))
           (.seq
            (.region [⟨(some 45), none, .p (.mv (.tmp 0))⟩,
               ⟨(some 46), none, .p (.fieldA 5 (.tmp 3))⟩,
               ⟨(some 47), none, .r1 (.tmp 46)⟩,
               ⟨(some 48), none, .p (.mv (.tmp 5))⟩,
               ⟨(some 49), none, .p (.ibin .add (.tmp 48) (.const (.int .i64 1)))⟩,
               ⟨(some 50), none, .p (.idxSl 1 (.tmp 47) (.tmp 49))⟩,
               ⟨(some 51), none, .r1 (.tmp 50)⟩,
               ⟨(some 52), none, .w (.call 87 [(.tmp 45), (.tmp 51)])⟩,
               ⟨(some 44), none, .p (.mv (.tmp 52))⟩,
               ⟨(some 53), none, .p (.extract 0 (.tmp 44))⟩,
               ⟨(some 54), none, .p (.extract 1 (.tmp 44))⟩,
               ⟨(some 6), none, .p (.mv (.tmp 53))⟩,
               ⟨(some 7), none, .p (.mv (.tmp 54))⟩])
            (.seq
             (.seq
              (.region [⟨(some 55), none, .p (.mv (.tmp 7))⟩,
                 ⟨(some 56), none, .p (.ibin .neq (.tmp 55) (.const (.int .i64 0)))⟩])
              (.cond (.tmp 56)
               (.seq
                (.region [⟨(some 57), none, .p (.mv (.tmp 7))⟩,
                   ⟨(some 4), none, .p (.mv (.tmp 57))⟩])
                .ret)
               .skip))
             (.seq
              (.region [⟨(some 58), none, .p (.mv (.tmp 0))⟩,
                 ⟨(some 59), none, .p (.fieldA 5 (.tmp 3))⟩,
                 ⟨(some 60), none, .r1 (.tmp 59)⟩,
                 ⟨(some 61), none, .p (.mv (.tmp 5))⟩,
                 ⟨(some 62), none, .p (.ibin .add (.tmp 61) (.const (.int .i64 2)))⟩,
                 ⟨(some 63), none, .p (.idxSl 1 (.tmp 60) (.tmp 62))⟩,
                 ⟨(some 64), none, .r1 (.tmp 63)⟩,
                 ⟨(some 65), none, .p (.mv (.tmp 6))⟩,
                 ⟨(some 66), none, .w (.bslice 3 2 [.int .i64 0] [(0, 1, (.tmp 64)), (1, 1, (.tmp 65))])⟩,
                 ⟨(some 67), none, .w (.call 65 [(.tmp 58), (.tmp 66)])⟩,
                 ⟨(some 7), none, .p (.mv (.tmp 67))⟩])
              (.seq
               (.region [⟨(some 68), none, .p (.mv (.tmp 7))⟩,
                  ⟨(some 69), none, .p (.ibin .neq (.tmp 68) (.const (.int .i64 0)))⟩])
               (.cond (.tmp 69)
                (.seq
                 (.region [⟨(some 70), none, .p (.mv (.tmp 7))⟩,
                    ⟨(some 4), none, .p (.mv (.tmp 70))⟩])
                 .ret)
                .skip)))))))
         (.region [⟨(some 28), none, .p (.mv (.tmp 5))⟩,
            ⟨(some 29), none, .p (.ibin .add (.tmp 28) (.const (.int .i64 3)))⟩,
            ⟨(some 5), none, .p (.mv (.tmp 29))⟩]))))))
    (.seq
     (.region [⟨(some 71), none, .p (.mv (.tmp 0))⟩,
        ⟨(some 72), none, .p (.fieldA 1 (.tmp 3))⟩,
        ⟨(some 73), none, .r1 (.tmp 72)⟩,
        ⟨(some 74), none, .w (.bslice 3 2 [.int .i64 0] [(0, 1, (.tmp 73)), (1, 1, (.const (.int .i64 0)))])⟩,
        ⟨(some 75), none, .w (.call 65 [(.tmp 71), (.tmp 74)])⟩,
        ⟨(some 4), none, .p (.mv (.tmp 75))⟩])
     .ret)))), [.tmp 4]⟩
theorem comp88 : compFunc Try.prog 88 = some a88 := by kernel_rfl
theorem callable88 : callable Try.prog 88 = true := by kernel_rfl

/-- (*treadle/ideal.Ideal).wake -/
def a90 : AFunc := ⟨4, (.seq
  (.region [⟨(some 14), none, .p (.mv (.tmp 0))⟩,
     ⟨(some 15), none, .p (.nilck (.tmp 14))⟩,
     ⟨(some 16), none, .p (.fieldA 5 (.tmp 15))⟩,
     ⟨(some 17), none, .r1 (.tmp 16)⟩,
     ⟨(some 18), none, .p (.mv (.tmp 1))⟩,
     ⟨(some 19), none, .p (.ibin .quo (.tmp 18) (.const (.int .i64 64)))⟩,
     ⟨(some 20), none, .p (.idxSl 1 (.tmp 17) (.tmp 19))⟩,
     ⟨(some 21), none, .r1 (.tmp 20)⟩,
     ⟨(some 8), none, .p (.mv (.tmp 21))⟩])
  (.seq
   (.seq
    (.region [⟨(some 22), none, .p (.mv (.tmp 8))⟩,
       ⟨(some 23), none, .p (.nilck (.tmp 22))⟩,
       ⟨(some 24), none, .p (.fieldA 0 (.tmp 23))⟩,
       ⟨(some 25), none, .r1 (.tmp 24)⟩,
       ⟨(some 26), none, .p (.ibin .neq (.tmp 25) (.const (.int .i64 2)))⟩,
       ⟨(some 27), none, .p (.mv (.tmp 26))⟩,
       ⟨(some 28), (some (27, false)), .p (.mv (.tmp 8))⟩,
       ⟨(some 29), (some (27, false)), .p (.nilck (.tmp 28))⟩,
       ⟨(some 30), (some (27, false)), .p (.fieldA 2 (.tmp 29))⟩,
       ⟨(some 31), (some (27, false)), .r1 (.tmp 30)⟩,
       ⟨(some 32), none, .p (.pick (.tmp 27) (.const (.bool true)) (.tmp 31))⟩])
    (.cond (.tmp 32)
     .ret
     .skip))
   (.seq
    (.region [⟨(some 33), none, .p (.mv (.tmp 8))⟩,
       ⟨(some 34), none, .p (.nilck (.tmp 33))⟩,
       ⟨(some 35), none, .p (.fieldA 0 (.tmp 34))⟩,
       ⟨none, none, .w (.st1 (.tmp 35) (.const (.int .i64 1)))⟩])
    (.seq
     (.region [⟨(some 36), none, .p (.mv (.tmp 8))⟩,
        ⟨(some 37), none, .w (.call 29 [(.tmp 36)])⟩,
        ⟨(some 9), none, .p (.mv (.tmp 37))⟩])
     (.seq
      (.region [⟨(some 38), none, .p (.mv (.tmp 0))⟩,
         ⟨(some 39), none, .p (.mv (.tmp 9))⟩,
         ⟨(some 40), none, .w (.call 95 [(.tmp 38), (.tmp 39)])⟩,
         ⟨(some 10), none, .w (.alloc 38 [.int .i64 0, .int .i64 0, .int .i64 0, .int .i64 0, .int .u64 0, .slice none 0 0])⟩,
         ⟨none, none, .w (.stN 6 (.tmp 10) (.tmp 40))⟩])
      (.seq
       (.seq
        (.region [⟨(some 41), none, .p (.fieldA 0 (.tmp 10))⟩,
           ⟨(some 42), none, .r1 (.tmp 41)⟩,
           ⟨(some 43), none, .p (.ibin .neq (.tmp 42) (.const (.int .i64 45)))⟩])
        (.cond (.tmp 43)
         (.seq
          (.seq
           (.region [⟨(some 44), none, .p (.fieldA 0 (.tmp 10))⟩,
              ⟨(some 45), none, .r1 (.tmp 44)⟩,
              ⟨(some 46), none, .p (.ibin .eql (.tmp 45) (.const (.int .i64 43)))⟩])
           (.cond (.tmp 46)
            (.draw [⟨0, ⟨(some 47), none, .p (.mv (.tmp 9))⟩, []⟩,
               ⟨1, ⟨(some 48), none, .p (.nilck (.tmp 47))⟩, []⟩,
               ⟨2, ⟨(some 49), none, .p (.fieldA 3 (.tmp 48))⟩, []⟩,
               ⟨3, ⟨(some 50), none, .r1 (.tmp 49)⟩, []⟩,
               ⟨4, ⟨(some 51), none, .p (.fieldA 1 (.tmp 10))⟩, []⟩,
               ⟨5, ⟨(some 52), none, .r1 (.tmp 51)⟩, []⟩,
               ⟨6, ⟨(some 53), none, .p (.mv (.tmp 9))⟩, []⟩,
               ⟨7, ⟨(some 54), none, .p (.nilck (.tmp 53))⟩, []⟩,
               ⟨8, ⟨(some 55), none, .p (.fieldA 3 (.tmp 54))⟩, []⟩,
               ⟨9, ⟨(some 56), none, .r1 (.tmp 55)⟩, []⟩,
               ⟨10, ⟨(some 57), none, .p (.fieldA 3 (.tmp 10))⟩, []⟩,
               ⟨11, ⟨(some 58), none, .r1 (.tmp 57)⟩, []⟩,
               ⟨12, ⟨(some 59), none, .p (.mv (.tmp 2))⟩, []⟩,
               ⟨13, ⟨(some 60), none, .p (.mv (.tmp 3))⟩, []⟩,
               ⟨14, ⟨(some 61), none, .p (.not (.tmp 60))⟩, []⟩,
               ⟨15, ⟨(some 62), none, .w (.call 71 [(.tmp 61)])⟩, [3, 5, 9, 11]⟩,
               ⟨16, ⟨(some 63), none, .p (.idxSl 1 (.tmp 50) (.tmp 52))⟩, []⟩,
               ⟨17, ⟨none, none, .w (.st1 (.tmp 63) (.tmp 59))⟩, [11]⟩,
               ⟨18, ⟨(some 64), none, .p (.idxSl 1 (.tmp 56) (.tmp 58))⟩, []⟩,
               ⟨19, ⟨none, none, .w (.st1 (.tmp 64) (.tmp 62))⟩, []⟩])
            (.region [⟨(some 65), none, .p (.mv (.tmp 8))⟩,
               ⟨(some 66), none, .p (.mv (.tmp 3))⟩,
               ⟨(some 67), none, .p (.nilck (.tmp 65))⟩,
               ⟨(some 68), none, .p (.fieldA 7 (.tmp 67))⟩,
               ⟨none, none, .w (.st1 (.tmp 68) (.tmp 66))⟩])))
          .ret)
         .skip))
       (.seq
        (.region [⟨(some 69), none, .p (.mv (.tmp 1))⟩,
           ⟨(some 70), none, .p (.ibin .rem (.tmp 69) (.const (.int .i64 64)))⟩,
           ⟨(some 71), none, .p (.ibin .sub (.tmp 70) (.const (.int .i64 1)))⟩,
           ⟨(some 11), none, .p (.mv (.tmp 71))⟩])
        (.seq
         (.seq
          (.region [⟨(some 12), none, .p (.mv (.const (.int .i64 0)))⟩])
          (.block 0
           (.loop
            (.seq
             (.seq
              (.region [⟨(some 72), none, .p (.mv (.tmp 12))⟩,
                 ⟨(some 73), none, .p (.fieldA 5 (.tmp 10))⟩,
                 ⟨(some 74), none, .r1 (.tmp 73)⟩,
                 ⟨(some 75), none, .p (.len false (.tmp 74))⟩,
                 ⟨(some 76), none, .p (.ibin .lss (.tmp 72) (.tmp 75))⟩])
              (.cond (.tmp 76)
               .skip
               (.exit 0)))
             (.seq
              (.block 1
               (.seq
                (.draw [⟨0, ⟨(some 79), none, .p (.mv (.tmp 0))⟩, []⟩,
                   ⟨1, ⟨(some 80), none, .p (.mv (.tmp 9))⟩, []⟩,
                   ⟨2, ⟨(some 81), none, .p (.nilck (.tmp 80))⟩, []⟩,
                   ⟨3, ⟨(some 82), none, .p (.fieldA 3 (.tmp 81))⟩, []⟩,
                   ⟨4, ⟨(some 83), none, .r1 (.tmp 82)⟩, []⟩,
                   ⟨5, ⟨(some 84), none, .p (.fieldA 5 (.tmp 10))⟩, []⟩,
                   ⟨6, ⟨(some 85), none, .r1 (.tmp 84)⟩, []⟩,
                   ⟨7, ⟨(some 86), none, .p (.mv (.tmp 12))⟩, []⟩,
                   ⟨8, ⟨(some 87), none, .p (.ibin .add (.tmp 86) (.const (.int .i64 1)))⟩, []⟩,
                   ⟨9, ⟨(some 88), none, .p (.idxSl 1 (.tmp 85) (.tmp 87))⟩, []⟩,
                   ⟨10, ⟨(some 89), none, .r1 (.tmp 88)⟩, []⟩,
                   ⟨11, ⟨(some 90), none, .p (.idxSl 1 (.tmp 83) (.tmp 89))⟩, []⟩,
                   ⟨12, ⟨(some 91), none, .r1 (.tmp 90)⟩, []⟩,
                   ⟨13, ⟨(some 92), none, .w (.call 79 [(.tmp 79), (.tmp 91)])⟩, []⟩,
                   ⟨14, ⟨(some 13), none, .p (.mv (.tmp 92))⟩, []⟩])
                (.seq
                 (.region [⟨(some 93), none, .p (.mv (.tmp 13))⟩,
                    ⟨(some 94), none, .p (.eqp true (.tmp 93) (.const (.pointer none)))⟩])
                 (.cond (.tmp 94)
                  (.region [⟨(some 95), none, .p (.mv (.tmp 13))⟩,
                     ⟨(some 96), none, .p (.mv (.tmp 1))⟩,
                     ⟨(some 97), none, .p (.ibin .quo (.tmp 96) (.const (.int .i64 64)))⟩,
                     ⟨(some 98), none, .p (.mv (.tmp 12))⟩,
                     ⟨(some 99), none, .p (.ibin .quo (.tmp 98) (.const (.int .i64 3)))⟩,
                     ⟨(some 100), none, .w (.call 81 [(.tmp 97), (.tmp 99)])⟩,
                     ⟨(some 101), none, .w (.call 96 [(.tmp 95), (.tmp 100)])⟩])
                  .skip))))
              (.region [⟨(some 77), none, .p (.mv (.tmp 12))⟩,
                 ⟨(some 78), none, .p (.ibin .add (.tmp 77) (.const (.int .i64 3)))⟩,
                 ⟨(some 12), none, .p (.mv (.tmp 78))⟩]))))))
         (.seq
          (.draw [⟨0, ⟨(some 102), none, .p (.mv (.tmp 9))⟩, []⟩,
             ⟨1, ⟨(some 103), none, .p (.nilck (.tmp 102))⟩, []⟩,
             ⟨2, ⟨(some 104), none, .p (.fieldA 3 (.tmp 103))⟩, []⟩,
             ⟨3, ⟨(some 105), none, .r1 (.tmp 104)⟩, []⟩,
             ⟨4, ⟨(some 106), none, .p (.fieldA 1 (.tmp 10))⟩, []⟩,
             ⟨5, ⟨(some 107), none, .r1 (.tmp 106)⟩, []⟩,
             ⟨6, ⟨(some 108), none, .p (.mv (.tmp 11))⟩, []⟩,
             ⟨7, ⟨(some 109), none, .p (.conv .u64 (.tmp 108))⟩, []⟩,
             ⟨8, ⟨(some 110), none, .p (.idxSl 1 (.tmp 105) (.tmp 107))⟩, []⟩,
             ⟨9, ⟨none, none, .w (.st1 (.tmp 110) (.tmp 109))⟩, []⟩])
          (.seq
           (.region [⟨(some 111), none, .p (.fieldA 5 (.tmp 10))⟩,
              ⟨(some 112), none, .r1 (.tmp 111)⟩,
              ⟨(some 113), none, .p (.mv (.tmp 11))⟩,
              ⟨(some 114), none, .p (.ibin .mul (.const (.int .i64 3)) (.tmp 113))⟩,
              ⟨(some 115), none, .p (.idxSl 1 (.tmp 112) (.tmp 114))⟩,
              ⟨(some 116), none, .r1 (.tmp 115)⟩,
              ⟨(some 117), none, .p (.ibin .eql (.tmp 116) (.const (.int .i64 1)))⟩])
           (.cond (.tmp 117)
            (.draw [⟨0, ⟨(some 118), none, .p (.mv (.tmp 9))⟩, []⟩,
               ⟨1, ⟨(some 119), none, .p (.nilck (.tmp 118))⟩, []⟩,
               ⟨2, ⟨(some 120), none, .p (.fieldA 3 (.tmp 119))⟩, []⟩,
               ⟨3, ⟨(some 121), none, .r1 (.tmp 120)⟩, []⟩,
               ⟨4, ⟨(some 122), none, .p (.fieldA 5 (.tmp 10))⟩, []⟩,
               ⟨5, ⟨(some 123), none, .r1 (.tmp 122)⟩, []⟩,
               ⟨6, ⟨(some 124), none, .p (.mv (.tmp 11))⟩, []⟩,
               ⟨7, ⟨(some 125), none, .p (.ibin .mul (.const (.int .i64 3)) (.tmp 124))⟩, []⟩,
               ⟨8, ⟨(some 126), none, .p (.ibin .add (.tmp 125) (.const (.int .i64 2)))⟩, []⟩,
               ⟨9, ⟨(some 127), none, .p (.idxSl 1 (.tmp 123) (.tmp 126))⟩, []⟩,
               ⟨10, ⟨(some 128), none, .r1 (.tmp 127)⟩, []⟩,
               ⟨11, ⟨(some 129), none, .p (.mv (.tmp 2))⟩, []⟩,
               ⟨12, ⟨(some 130), none, .p (.idxSl 1 (.tmp 121) (.tmp 128))⟩, []⟩,
               ⟨13, ⟨none, none, .w (.st1 (.tmp 130) (.tmp 129))⟩, []⟩])
            (.region [⟨(some 131), none, .p (.mv (.tmp 8))⟩,
               ⟨(some 132), none, .p (.mv (.tmp 3))⟩,
               ⟨(some 133), none, .p (.nilck (.tmp 131))⟩,
               ⟨(some 134), none, .p (.fieldA 7 (.tmp 133))⟩,
               ⟨none, none, .w (.st1 (.tmp 134) (.tmp 132))⟩])))))))))))), []⟩
theorem comp90 : compFunc Try.prog 90 = some a90 := by kernel_rfl
theorem callable90 : callable Try.prog 90 = true := by kernel_rfl

/-- (*treadle/chans.Chan).Recv -/
def a92 : AFunc := ⟨3, (.seq
  (.region [⟨(some 6), none, .w (.alloc 159 [.int .i64 0, .int .i64 0, .int .u64 0])⟩])
  (.seq
   (.seq
    (.region [⟨(some 10), none, .p (.mv (.tmp 0))⟩,
       ⟨(some 11), none, .p (.eqp false (.tmp 10) (.const (.pointer none)))⟩])
    (.cond (.tmp 11)
     (.seq
      (.region [⟨(some 12), none, .p (.build [.int .i64 0, .int .i64 0, .int .u64 0] [])⟩,
         ⟨none, none, .w (.stN 3 (.tmp 6) (.tmp 12))⟩])
      .ret)
     .skip))
   (.seq
    (.seq
     (.region [⟨(some 13), none, .p (.mv (.tmp 0))⟩,
        ⟨(some 14), none, .p (.nilck (.tmp 13))⟩,
        ⟨(some 15), none, .p (.fieldA 0 (.tmp 14))⟩,
        ⟨(some 16), none, .r1 (.tmp 15)⟩,
        ⟨(some 17), none, .p (.len false (.tmp 16))⟩,
        ⟨(some 18), none, .p (.ibin .gtr (.tmp 17) (.const (.int .i64 0)))⟩])
     (.cond (.tmp 18)
      (.seq
       (.region [⟨(some 19), none, .p (.mv (.tmp 0))⟩,
          ⟨(some 20), none, .p (.nilck (.tmp 19))⟩,
          ⟨(some 21), none, .p (.fieldA 0 (.tmp 20))⟩,
          ⟨(some 22), none, .r1 (.tmp 21)⟩,
          ⟨(some 23), none, .p (.idxSl 1 (.tmp 22) (.const (.int .i64 0)))⟩,
          ⟨(some 24), none, .r1 (.tmp 23)⟩,
          ⟨(some 25), none, .p (.build [.int .i64 0, .int .i64 0, .int .u64 0] [(0, 1, (.const (.int .i64 1))), (2, 1, (.tmp 24))])⟩,
          ⟨(some 7), none, .w (.alloc 159 [.int .i64 0, .int .i64 0, .int .u64 0])⟩,
          ⟨none, none, .w (.stN 3 (.tmp 7) (.tmp 25))⟩])
       (.seq
        (.region [⟨(some 26), none, .p (.mv (.tmp 0))⟩,
           ⟨(some 27), none, .p (.mv (.tmp 0))⟩,
           ⟨(some 28), none, .p (.nilck (.tmp 27))⟩,
           ⟨(some 29), none, .p (.fieldA 0 (.tmp 28))⟩,
           ⟨(some 30), none, .r1 (.tmp 29)⟩,
           ⟨(some 31), none, .p (.slc 1 (.tmp 30) (some (.const (.int .i64 1))) none)⟩,
           ⟨(some 32), none, .p (.nilck (.tmp 26))⟩,
           ⟨(some 33), none, .p (.fieldA 0 (.tmp 32))⟩,
           ⟨none, none, .w (.st1 (.tmp 33) (.tmp 31))⟩])
        (.seq
         (.seq
          (.region [⟨(some 34), none, .p (.mv (.tmp 0))⟩,
             ⟨(some 35), none, .p (.nilck (.tmp 34))⟩,
             ⟨(some 36), none, .p (.fieldA 3 (.tmp 35))⟩,
             ⟨(some 37), none, .r1 (.tmp 36)⟩,
             ⟨(some 38), none, .p (.len false (.tmp 37))⟩,
             ⟨(some 39), none, .p (.ibin .gtr (.tmp 38) (.const (.int .i64 0)))⟩])
          (.cond (.tmp 39)
           (.seq
            (.region [⟨(some 40), none, .p (.mv (.tmp 0))⟩,
               ⟨(some 41), none, .p (.nilck (.tmp 40))⟩,
               ⟨(some 42), none, .p (.fieldA 3 (.tmp 41))⟩,
               ⟨(some 43), none, .r1 (.tmp 42)⟩,
               ⟨(some 44), none, .p (.idxSl 2 (.tmp 43) (.const (.int .i64 0)))⟩,
               ⟨(some 45), none, .rN 2 (.tmp 44)⟩,
               ⟨(some 8), none, .w (.alloc 147 [.int .i64 0, .int .u64 0])⟩,
               ⟨none, none, .w (.stN 2 (.tmp 8) (.tmp 45))⟩])
            (.seq
             (.region [⟨(some 46), none, .p (.mv (.tmp 0))⟩,
                ⟨(some 47), none, .p (.mv (.tmp 0))⟩,
                ⟨(some 48), none, .p (.nilck (.tmp 47))⟩,
                ⟨(some 49), none, .p (.fieldA 3 (.tmp 48))⟩,
                ⟨(some 50), none, .r1 (.tmp 49)⟩,
                ⟨(some 51), none, .p (.slc 2 (.tmp 50) (some (.const (.int .i64 1))) none)⟩,
                ⟨(some 52), none, .p (.nilck (.tmp 46))⟩,
                ⟨(some 53), none, .p (.fieldA 3 (.tmp 52))⟩,
                ⟨none, none, .w (.st1 (.tmp 53) (.tmp 51))⟩])
             (.seq
              (.draw [⟨0, ⟨(some 54), none, .p (.mv (.tmp 0))⟩, []⟩,
                 ⟨1, ⟨(some 55), none, .p (.mv (.tmp 0))⟩, []⟩,
                 ⟨2, ⟨(some 56), none, .p (.nilck (.tmp 55))⟩, []⟩,
                 ⟨3, ⟨(some 57), none, .p (.fieldA 0 (.tmp 56))⟩, []⟩,
                 ⟨4, ⟨(some 58), none, .r1 (.tmp 57)⟩, []⟩,
                 ⟨5, ⟨(some 59), none, .p (.fieldA 1 (.tmp 8))⟩, []⟩,
                 ⟨6, ⟨(some 60), none, .r1 (.tmp 59)⟩, []⟩,
                 ⟨7, ⟨(some 61), none, .w (.bslice 35 1 [.int .u64 0] [(0, 1, (.tmp 60))])⟩, []⟩,
                 ⟨8, ⟨(some 62), none, .w (.app 35 8 [.int .u64 0] (.tmp 58) (.tmp 61))⟩, []⟩,
                 ⟨9, ⟨(some 63), none, .p (.nilck (.tmp 54))⟩, []⟩,
                 ⟨10, ⟨(some 64), none, .p (.fieldA 0 (.tmp 63))⟩, []⟩,
                 ⟨11, ⟨none, none, .w (.st1 (.tmp 64) (.tmp 62))⟩, []⟩])
              (.draw [⟨0, ⟨(some 65), none, .p (.fieldA 0 (.tmp 8))⟩, []⟩,
                 ⟨1, ⟨(some 66), none, .r1 (.tmp 65)⟩, []⟩,
                 ⟨2, ⟨(some 67), none, .p (.fieldA 0 (.tmp 7))⟩, []⟩,
                 ⟨3, ⟨none, none, .w (.st1 (.tmp 67) (.const (.int .i64 2)))⟩, [1]⟩,
                 ⟨4, ⟨(some 68), none, .p (.fieldA 1 (.tmp 7))⟩, []⟩,
                 ⟨5, ⟨none, none, .w (.st1 (.tmp 68) (.tmp 66))⟩, []⟩]))))
           .skip))
         (.seq
          (.region [⟨(some 69), none, .rN 3 (.tmp 7)⟩,
             ⟨none, none, .w (.stN 3 (.tmp 6) (.tmp 69))⟩])
          .ret))))
      .skip))
    (.seq
     (.block 0
      (.seq
       (.region [⟨(some 71), none, .p (.mv (.tmp 0))⟩,
          ⟨(some 72), none, .p (.nilck (.tmp 71))⟩,
          ⟨(some 73), none, .p (.fieldA 3 (.tmp 72))⟩,
          ⟨(some 74), none, .r1 (.tmp 73)⟩,
          ⟨(some 75), none, .p (.len false (.tmp 74))⟩,
          ⟨(some 76), none, .p (.ibin .gtr (.tmp 75) (.const (.int .i64 0)))⟩,
          ⟨(some 70), none, .p (.mv (.tmp 76))⟩])
       (.cond (.tmp 70)
        (.seq
         (.region [⟨(some 77), none, .p (.mv (.tmp 0))⟩,
            ⟨(some 78), none, .p (.nilck (.tmp 77))⟩,
            ⟨(some 79), none, .p (.fieldA 3 (.tmp 78))⟩,
            ⟨(some 80), none, .r1 (.tmp 79)⟩,
            ⟨(some 81), none, .p (.idxSl 2 (.tmp 80) (.const (.int .i64 0)))⟩,
            ⟨(some 82), none, .rN 2 (.tmp 81)⟩,
            ⟨(some 9), none, .w (.alloc 147 [.int .i64 0, .int .u64 0])⟩,
            ⟨none, none, .w (.stN 2 (.tmp 9) (.tmp 82))⟩])
         (.seq
          (.region [⟨(some 83), none, .p (.mv (.tmp 0))⟩,
             ⟨(some 84), none, .p (.mv (.tmp 0))⟩,
             ⟨(some 85), none, .p (.nilck (.tmp 84))⟩,
             ⟨(some 86), none, .p (.fieldA 3 (.tmp 85))⟩,
             ⟨(some 87), none, .r1 (.tmp 86)⟩,
             ⟨(some 88), none, .p (.slc 2 (.tmp 87) (some (.const (.int .i64 1))) none)⟩,
             ⟨(some 89), none, .p (.nilck (.tmp 83))⟩,
             ⟨(some 90), none, .p (.fieldA 3 (.tmp 89))⟩,
             ⟨none, none, .w (.st1 (.tmp 90) (.tmp 88))⟩])
          (.seq
           (.region [⟨(some 91), none, .p (.fieldA 0 (.tmp 9))⟩,
              ⟨(some 92), none, .r1 (.tmp 91)⟩,
              ⟨(some 93), none, .p (.fieldA 1 (.tmp 9))⟩,
              ⟨(some 94), none, .r1 (.tmp 93)⟩,
              ⟨(some 95), none, .p (.build [.int .i64 0, .int .i64 0, .int .u64 0] [(0, 1, (.const (.int .i64 2))), (1, 1, (.tmp 92)), (2, 1, (.tmp 94))])⟩,
              ⟨none, none, .w (.stN 3 (.tmp 6) (.tmp 95))⟩])
           .ret)))
        (.seq
         (.region [⟨(some 97), none, .p (.mv (.tmp 0))⟩,
            ⟨(some 98), none, .p (.nilck (.tmp 97))⟩,
            ⟨(some 99), none, .p (.fieldA 2 (.tmp 98))⟩,
            ⟨(some 100), none, .r1 (.tmp 99)⟩,
            ⟨(some 96), none, .p (.mv (.tmp 100))⟩])
         (.cond (.tmp 96)
          (.seq
           (.region [⟨(some 101), none, .p (.build [.int .i64 0, .int .i64 0, .int .u64 0] [(0, 1, (.const (.int .i64 4)))])⟩,
              ⟨none, none, .w (.stN 3 (.tmp 6) (.tmp 101))⟩])
           .ret)
          .skip)))))
     (.seq
      (.seq
       (.region [⟨(some 102), none, .p (.mv (.tmp 2))⟩])
       (.cond (.tmp 102)
        (.region [⟨(some 103), none, .p (.mv (.tmp 0))⟩,
           ⟨(some 104), none, .p (.mv (.tmp 1))⟩,
           ⟨(some 105), none, .w (.call 97 [(.tmp 103), (.tmp 104), (.const (.int .u64 0)), (.const (.bool false))])⟩])
        .skip))
      (.seq
       (.region [⟨(some 106), none, .p (.build [.int .i64 0, .int .i64 0, .int .u64 0] [(0, 1, (.const (.int .i64 3)))])⟩,
          ⟨none, none, .w (.stN 3 (.tmp 6) (.tmp 106))⟩])
       .ret)))))), [.cN 3 6]⟩
theorem comp92 : compFunc Try.prog 92 = some a92 := by kernel_rfl
theorem callable92 : callable Try.prog 92 = true := by kernel_rfl

/-- (*treadle/ideal.Ideal).one -/
def a94 : AFunc := ⟨5, (.seq
  (.region [⟨(some 7), none, .w (.box 38 (.tmp 2))⟩])
  (.seq
   (.draw [⟨0, ⟨(some 14), none, .p (.mv (.tmp 0))⟩, []⟩,
      ⟨1, ⟨(some 15), none, .p (.mv (.tmp 1))⟩, []⟩,
      ⟨2, ⟨(some 16), none, .p (.fieldA 5 (.tmp 7))⟩, []⟩,
      ⟨3, ⟨(some 17), none, .r1 (.tmp 16)⟩, []⟩,
      ⟨4, ⟨(some 18), none, .p (.mv (.tmp 3))⟩, []⟩,
      ⟨5, ⟨(some 19), none, .p (.ibin .add (.tmp 18) (.const (.int .i64 1)))⟩, []⟩,
      ⟨6, ⟨(some 20), none, .p (.idxSl 1 (.tmp 17) (.tmp 19))⟩, []⟩,
      ⟨7, ⟨(some 21), none, .r1 (.tmp 20)⟩, []⟩,
      ⟨8, ⟨(some 22), none, .p (.idxSl 1 (.tmp 15) (.tmp 21))⟩, []⟩,
      ⟨9, ⟨(some 23), none, .r1 (.tmp 22)⟩, []⟩,
      ⟨11, ⟨(some 25), none, .p (.fieldA 5 (.tmp 7))⟩, []⟩,
      ⟨12, ⟨(some 26), none, .r1 (.tmp 25)⟩, []⟩,
      ⟨13, ⟨(some 27), none, .p (.mv (.tmp 3))⟩, []⟩,
      ⟨14, ⟨(some 28), none, .p (.ibin .add (.tmp 27) (.const (.int .i64 2)))⟩, []⟩,
      ⟨15, ⟨(some 29), none, .p (.idxSl 1 (.tmp 26) (.tmp 28))⟩, []⟩,
      ⟨16, ⟨(some 30), none, .r1 (.tmp 29)⟩, []⟩,
      ⟨17, ⟨(some 31), none, .p (.mv (.tmp 0))⟩, []⟩,
      ⟨18, ⟨(some 32), none, .p (.nilck (.tmp 31))⟩, []⟩,
      ⟨19, ⟨(some 33), none, .p (.fieldA 9 (.tmp 32))⟩, []⟩,
      ⟨20, ⟨(some 34), none, .r1 (.tmp 33)⟩, []⟩,
      ⟨21, ⟨(some 35), none, .p (.mv (.tmp 3))⟩, []⟩,
      ⟨22, ⟨(some 36), none, .p (.ibin .quo (.tmp 35) (.const (.int .i64 3)))⟩, []⟩,
      ⟨10, ⟨(some 24), none, .w (.call 79 [(.tmp 14), (.tmp 23)])⟩, [12, 16, 20]⟩,
      ⟨23, ⟨(some 37), none, .w (.call 81 [(.tmp 34), (.tmp 36)])⟩, [12, 16]⟩,
      ⟨24, ⟨(some 10), none, .p (.mv (.tmp 24))⟩, []⟩,
      ⟨25, ⟨(some 11), none, .p (.mv (.tmp 30))⟩, []⟩,
      ⟨26, ⟨(some 12), none, .p (.mv (.tmp 37))⟩, []⟩])
   (.seq
    (.region [⟨(some 38), none, .p (.fieldA 5 (.tmp 7))⟩,
       ⟨(some 39), none, .r1 (.tmp 38)⟩,
       ⟨(some 40), none, .p (.mv (.tmp 3))⟩,
       ⟨(some 41), none, .p (.idxSl 1 (.tmp 39) (.tmp 40))⟩,
       ⟨(some 42), none, .r1 (.tmp 41)⟩,
       ⟨(some 43), none, .p (.ibin .eql (.tmp 42) (.const (.int .i64 0)))⟩,
       ⟨(some 13), none, .p (.mv (.tmp 43))⟩])
    (.seq
     (.seq
      (.region [⟨(some 44), none, .p (.mv (.tmp 4))⟩])
      (.cond (.tmp 44)
       (.seq
        (.region [⟨(some 45), none, .p (.mv (.tmp 10))⟩,
           ⟨(some 46), none, .p (.mv (.tmp 12))⟩,
           ⟨(some 47), none, .p (.mv (.tmp 1))⟩,
           ⟨(some 48), none, .p (.mv (.tmp 11))⟩,
           ⟨(some 49), none, .p (.idxSl 1 (.tmp 47) (.tmp 48))⟩,
           ⟨(some 50), none, .r1 (.tmp 49)⟩,
           ⟨(some 51), none, .p (.mv (.tmp 13))⟩,
           ⟨(some 52), none, .w (.call 97 [(.tmp 45), (.tmp 46), (.tmp 50), (.tmp 51)])⟩])
        .ret)
       .skip))
     (.seq
      (.region [⟨(some 53), none, .p (.mv (.tmp 1))⟩,
         ⟨(some 54), none, .p (.fieldA 1 (.tmp 7))⟩,
         ⟨(some 55), none, .r1 (.tmp 54)⟩,
         ⟨(some 56), none, .p (.mv (.tmp 3))⟩,
         ⟨(some 57), none, .p (.ibin .quo (.tmp 56) (.const (.int .i64 3)))⟩,
         ⟨(some 58), none, .p (.conv .u64 (.tmp 57))⟩,
         ⟨(some 59), none, .p (.idxSl 1 (.tmp 53) (.tmp 55))⟩,
         ⟨none, none, .w (.st1 (.tmp 59) (.tmp 58))⟩])
      (.seq
       (.region [⟨(some 60), none, .p (.mv (.tmp 13))⟩])
       (.cond (.tmp 60)
        (.region [⟨(some 61), none, .p (.mv (.tmp 0))⟩,
           ⟨(some 62), none, .p (.mv (.tmp 10))⟩,
           ⟨(some 63), none, .p (.mv (.tmp 12))⟩,
           ⟨(some 64), none, .p (.mv (.tmp 1))⟩,
           ⟨(some 65), none, .p (.mv (.tmp 11))⟩,
           ⟨(some 66), none, .p (.idxSl 1 (.tmp 64) (.tmp 65))⟩,
           ⟨(some 67), none, .r1 (.tmp 66)⟩,
           ⟨(some 68), none, .w (.call 80 [(.tmp 61), (.tmp 62), (.tmp 63), (.tmp 67), (.const (.bool false))])⟩])
        (.region [⟨(some 69), none, .p (.mv (.tmp 0))⟩,
           ⟨(some 70), none, .p (.mv (.tmp 10))⟩,
           ⟨(some 71), none, .p (.mv (.tmp 12))⟩,
           ⟨(some 72), none, .p (.mv (.tmp 1))⟩,
           ⟨(some 73), none, .p (.mv (.tmp 11))⟩,
           ⟨(some 74), none, .w (.call 82 [(.tmp 69), (.tmp 70), (.tmp 71), (.tmp 72), (.tmp 73), (.const (.int .i64 (-1))), (.const (.bool false))])⟩])))))))), []⟩
theorem comp94 : compFunc Try.prog 94 = some a94 := by kernel_rfl
theorem callable94 : callable Try.prog 94 = true := by kernel_rfl

/-- (*treadle/chans.Chan).Leave -/
def a96 : AFunc := ⟨2, (.seq
  (.region [⟨(some 4), none, .p (.mv (.tmp 0))⟩,
     ⟨(some 5), none, .p (.eqp true (.tmp 4) (.const (.pointer none)))⟩])
  (.cond (.tmp 5)
   (.draw [⟨0, ⟨(some 6), none, .p (.mv (.tmp 0))⟩, []⟩,
      ⟨1, ⟨(some 7), none, .p (.mv (.tmp 0))⟩, []⟩,
      ⟨2, ⟨(some 8), none, .p (.mv (.tmp 0))⟩, []⟩,
      ⟨3, ⟨(some 9), none, .p (.nilck (.tmp 8))⟩, []⟩,
      ⟨4, ⟨(some 10), none, .p (.fieldA 3 (.tmp 9))⟩, []⟩,
      ⟨5, ⟨(some 11), none, .r1 (.tmp 10)⟩, []⟩,
      ⟨6, ⟨(some 12), none, .p (.mv (.tmp 1))⟩, []⟩,
      ⟨8, ⟨(some 14), none, .p (.mv (.tmp 0))⟩, []⟩,
      ⟨9, ⟨(some 15), none, .p (.nilck (.tmp 14))⟩, []⟩,
      ⟨10, ⟨(some 16), none, .p (.fieldA 4 (.tmp 15))⟩, []⟩,
      ⟨11, ⟨(some 17), none, .r1 (.tmp 16)⟩, []⟩,
      ⟨12, ⟨(some 18), none, .p (.mv (.tmp 1))⟩, []⟩,
      ⟨7, ⟨(some 13), none, .w (.call 98 [(.tmp 11), (.tmp 12)])⟩, [11]⟩,
      ⟨13, ⟨(some 19), none, .w (.call 98 [(.tmp 17), (.tmp 18)])⟩, []⟩,
      ⟨14, ⟨(some 20), none, .p (.nilck (.tmp 6))⟩, []⟩,
      ⟨15, ⟨(some 21), none, .p (.fieldA 3 (.tmp 20))⟩, []⟩,
      ⟨16, ⟨none, none, .w (.st1 (.tmp 21) (.tmp 13))⟩, []⟩,
      ⟨17, ⟨(some 22), none, .p (.nilck (.tmp 7))⟩, []⟩,
      ⟨18, ⟨(some 23), none, .p (.fieldA 4 (.tmp 22))⟩, []⟩,
      ⟨19, ⟨none, none, .w (.st1 (.tmp 23) (.tmp 19))⟩, []⟩])
   .skip)), []⟩
theorem comp96 : compFunc Try.prog 96 = some a96 := by kernel_rfl
theorem callable96 : callable Try.prog 96 = true := by kernel_rfl

/-- treadle/chans.without -/
def a98 : AFunc := ⟨2, (.seq
  (.region [⟨(some 4), none, .p (.mv (.const (.slice none 0 0)))⟩])
  (.seq
   (.region [⟨(some 5), none, .p (.mv (.const (.slice none 0 0)))⟩])
   (.seq
    (.seq
     (.region [⟨(some 8), none, .p (.mv (.tmp 0))⟩,
        ⟨(some 9), none, .p (.len false (.tmp 8))⟩,
        ⟨(some 10), none, .p (.mv (.const (.int .i64 0)))⟩])
     (.block 0
      (.loop
       (.seq
        (.region [⟨(some 11), none, .p (.ibin .lss (.tmp 10) (.tmp 9))⟩])
        (.seq
         (.cond (.tmp 11)
          .skip
          (.exit 0))
         (.seq
          (.block 1
           (.seq
            (.region [⟨(some 12), none, .p (.idxSl 2 (.tmp 8) (.tmp 10))⟩,
               ⟨(some 13), none, .rN 2 (.tmp 12)⟩,
               ⟨(some 7), none, .w (.alloc 147 [.int .i64 0, .int .u64 0])⟩,
               ⟨none, none, .w (.stN 2 (.tmp 7) (.tmp 13))⟩])
            (.seq
             (.region [⟨(some 14), none, .p (.fieldA 0 (.tmp 7))⟩,
                ⟨(some 15), none, .r1 (.tmp 14)⟩,
                ⟨(some 16), none, .p (.mv (.tmp 1))⟩,
                ⟨(some 17), none, .p (.ibin .neq (.tmp 15) (.tmp 16))⟩])
             (.cond (.tmp 17)
              (.region [⟨(some 18), none, .p (.mv (.tmp 5))⟩,
                 ⟨(some 19), none, .rN 2 (.tmp 7)⟩,
                 ⟨(some 20), none, .w (.bslice 147 1 [.int .i64 0, .int .u64 0] [(0, 2, (.tmp 19))])⟩,
                 ⟨(some 21), none, .w (.app 147 16 [.int .i64 0, .int .u64 0] (.tmp 18) (.tmp 20))⟩,
                 ⟨(some 5), none, .p (.mv (.tmp 21))⟩])
              .skip))))
          (.region [⟨(some 22), none, .p (.ibin .add (.tmp 10) (.const (.int .i64 1)))⟩,
             ⟨(some 10), none, .p (.mv (.tmp 22))⟩])))))))
    (.seq
     (.region [⟨(some 23), none, .p (.mv (.tmp 5))⟩,
        ⟨(some 4), none, .p (.mv (.tmp 23))⟩])
     .ret)))), [.tmp 4]⟩
theorem comp98 : compFunc Try.prog 98 = some a98 := by kernel_rfl
theorem callable98 : callable Try.prog 98 = true := by kernel_rfl
end Go.Am.Try
