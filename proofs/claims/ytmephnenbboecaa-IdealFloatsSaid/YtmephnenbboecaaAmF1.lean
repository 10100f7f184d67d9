/- The functions of the cut, resolved (printed by gen.py). No condition. -/
import Derived.Test.YtmephnenbboecaaAmM
import Derived.Test.YtmephnenbboecaaChecked
namespace Go.Am.Try
open Go.Proofs
set_option maxRecDepth 100000
/-- treadle/treadlelaw18.IdealSleeps -/
def a3 : AFunc := ⟨2, (.seq
  (.region [⟨(some 4), none, .p (.mv (.const (.bool false)))⟩])
  (.seq
   (.region [⟨(some 11), none, .p (.mv (.tmp 0))⟩,
      ⟨(some 12), none, .p (.conv .u64 (.tmp 11))⟩,
      ⟨(some 13), none, .p (.build [.int .i64 0, .int .i64 0, .int .i64 0, .int .i64 0, .int .u64 0, .slice none 0 0] [(0, 1, (.const (.int .i64 1))), (1, 1, (.const (.int .i64 1))), (4, 1, (.tmp 12))])⟩,
      ⟨(some 14), none, .p (.build [.int .i64 0, .int .i64 0, .int .i64 0, .int .i64 0, .int .u64 0, .slice none 0 0] [(0, 1, (.const (.int .i64 46))), (1, 1, (.const (.int .i64 1)))])⟩,
      ⟨(some 15), none, .p (.build [.int .i64 0, .int .i64 0, .int .i64 0, .int .i64 0, .int .u64 0, .slice none 0 0] [(0, 1, (.const (.int .i64 36)))])⟩,
      ⟨(some 16), none, .w (.bslice 38 3 [.int .i64 0, .int .i64 0, .int .i64 0, .int .i64 0, .int .u64 0, .slice none 0 0] [(0, 6, (.tmp 13)), (6, 6, (.tmp 14)), (12, 6, (.tmp 15))])⟩,
      ⟨(some 17), none, .w (.call 8 [(.tmp 16)])⟩,
      ⟨(some 18), none, .w (.call 7 [(.tmp 17)])⟩,
      ⟨(some 10), none, .p (.mv (.tmp 18))⟩,
      ⟨(some 19), none, .p (.extract 0 (.tmp 10))⟩,
      ⟨(some 20), none, .p (.extract 1 (.tmp 10))⟩,
      ⟨(some 6), none, .w (.alloc 26 [.int .i64 0, .int .i64 0, .int .i64 0])⟩,
      ⟨(some 5), none, .p (.mv (.tmp 19))⟩,
      ⟨none, none, .w (.stN 3 (.tmp 6) (.tmp 20))⟩])
   (.seq
    (.seq
     (.region [⟨(some 21), none, .w (.call 9 [])⟩,
        ⟨(some 22), none, .p (.not (.tmp 21))⟩,
        ⟨(some 23), none, .p (.mv (.tmp 22))⟩,
        ⟨(some 24), (some (23, false)), .p (.mv (.tmp 5))⟩,
        ⟨(some 25), (some (23, false)), .p (.eqp false (.tmp 24) (.const (.pointer none)))⟩,
        ⟨(some 26), none, .p (.pick (.tmp 23) (.const (.bool true)) (.tmp 25))⟩,
        ⟨(some 27), none, .p (.mv (.tmp 26))⟩,
        ⟨(some 28), (some (27, false)), .p (.fieldA 0 (.tmp 6))⟩,
        ⟨(some 29), (some (27, false)), .r1 (.tmp 28)⟩,
        ⟨(some 30), (some (27, false)), .p (.ibin .neq (.tmp 29) (.const (.int .i64 0)))⟩,
        ⟨(some 31), none, .p (.pick (.tmp 27) (.const (.bool true)) (.tmp 30))⟩,
        ⟨(some 32), none, .p (.mv (.tmp 31))⟩,
        ⟨(some 33), (some (32, false)), .p (.mv (.tmp 5))⟩,
        ⟨(some 34), (some (32, false)), .w (.call 10 [(.tmp 33), (.const (.int .i64 0)), (.const (.int .u64 0))])⟩,
        ⟨(some 35), (some (32, false)), .p (.ibin .neq (.tmp 34) (.const (.int .i64 0)))⟩,
        ⟨(some 36), none, .p (.pick (.tmp 32) (.const (.bool true)) (.tmp 35))⟩,
        ⟨(some 37), none, .p (.mv (.tmp 36))⟩,
        ⟨(some 38), (some (37, false)), .p (.mv (.tmp 5))⟩,
        ⟨(some 39), (some (37, false)), .w (.call 10 [(.tmp 38), (.const (.int .i64 0)), (.const (.int .u64 0))])⟩,
        ⟨(some 40), (some (37, false)), .p (.ibin .neq (.tmp 39) (.const (.int .i64 0)))⟩,
        ⟨(some 41), none, .p (.pick (.tmp 37) (.const (.bool true)) (.tmp 40))⟩])
     (.cond (.tmp 41)
      (.seq
       (.region [⟨(some 4), none, .p (.mv (.const (.bool false)))⟩])
       .ret)
      .skip))
    (.seq
     (.region [⟨(some 7), none, .p (.mv (.const (.int .i64 0)))⟩])
     (.seq
      (.seq
       (.region [⟨(some 42), none, .p (.mv (.tmp 1))⟩,
          ⟨(some 43), none, .p (.len false (.tmp 42))⟩,
          ⟨(some 44), none, .p (.mv (.const (.int .i64 0)))⟩])
       (.block 0
        (.loop
         (.seq
          (.region [⟨(some 45), none, .p (.ibin .lss (.tmp 44) (.tmp 43))⟩])
          (.seq
           (.cond (.tmp 45)
            .skip
            (.exit 0))
           (.seq
            (.block 1
             (.seq
              (.region [⟨(some 46), none, .p (.idxSl 1 (.tmp 42) (.tmp 44))⟩,
                 ⟨(some 47), none, .r1 (.tmp 46)⟩,
                 ⟨(some 9), none, .p (.mv (.tmp 47))⟩])
              (.seq
               (.seq
                (.region [⟨(some 48), none, .p (.mv (.tmp 5))⟩,
                   ⟨(some 49), none, .w (.call 11 [(.tmp 48), (.const (.int .i64 0))])⟩,
                   ⟨(some 50), none, .p (.ibin .eql (.tmp 49) (.const (.int .i64 1)))⟩,
                   ⟨(some 51), none, .p (.mv (.tmp 0))⟩,
                   ⟨(some 52), none, .p (.mv (.tmp 7))⟩,
                   ⟨(some 53), none, .p (.ibin .leq (.tmp 51) (.tmp 52))⟩,
                   ⟨(some 54), none, .p (.eqb true (.tmp 50) (.tmp 53))⟩,
                   ⟨(some 55), none, .p (.mv (.tmp 54))⟩,
                   ⟨(some 56), (some (55, false)), .p (.mv (.tmp 5))⟩,
                   ⟨(some 57), (some (55, false)), .w (.call 11 [(.tmp 56), (.const (.int .i64 0))])⟩,
                   ⟨(some 58), (some (55, false)), .p (.ibin .eql (.tmp 57) (.const (.int .i64 2)))⟩,
                   ⟨(some 59), (some (55, false)), .p (.mv (.tmp 0))⟩,
                   ⟨(some 60), (some (55, false)), .p (.mv (.tmp 7))⟩,
                   ⟨(some 61), (some (55, false)), .p (.ibin .gtr (.tmp 59) (.tmp 60))⟩,
                   ⟨(some 62), (some (55, false)), .p (.eqb true (.tmp 58) (.tmp 61))⟩,
                   ⟨(some 63), none, .p (.pick (.tmp 55) (.const (.bool true)) (.tmp 62))⟩])
                (.cond (.tmp 63)
                 (.seq
                  (.region [⟨(some 4), none, .p (.mv (.const (.bool false)))⟩])
                  .ret)
                 .skip))
               (.seq
                (.seq
                 (.region [⟨(some 64), none, .p (.mv (.tmp 5))⟩,
                    ⟨(some 65), none, .p (.mv (.tmp 9))⟩,
                    ⟨(some 66), none, .p (.conv .u64 (.tmp 65))⟩,
                    ⟨(some 67), none, .w (.call 12 [(.tmp 64), (.tmp 66)])⟩,
                    ⟨(some 68), none, .p (.ibin .neq (.tmp 67) (.const (.int .i64 0)))⟩])
                 (.cond (.tmp 68)
                  (.seq
                   (.region [⟨(some 4), none, .p (.mv (.const (.bool false)))⟩])
                   .ret)
                  .skip))
                (.region [⟨(some 69), none, .p (.mv (.tmp 7))⟩,
                   ⟨(some 70), none, .p (.mv (.tmp 9))⟩,
                   ⟨(some 71), none, .p (.conv .i64 (.tmp 70))⟩,
                   ⟨(some 72), none, .p (.ibin .add (.tmp 69) (.tmp 71))⟩,
                   ⟨(some 7), none, .p (.mv (.tmp 72))⟩])))))
            (.region [⟨(some 73), none, .p (.ibin .add (.tmp 44) (.const (.int .i64 1)))⟩,
               ⟨(some 44), none, .p (.mv (.tmp 73))⟩])))))))
      (.seq
       (.region [⟨(some 74), none, .p (.mv (.tmp 5))⟩,
          ⟨(some 75), none, .w (.call 11 [(.tmp 74), (.const (.int .i64 0))])⟩,
          ⟨(some 76), none, .p (.ibin .eql (.tmp 75) (.const (.int .i64 1)))⟩,
          ⟨(some 77), none, .p (.mv (.tmp 0))⟩,
          ⟨(some 78), none, .p (.mv (.tmp 7))⟩,
          ⟨(some 79), none, .p (.ibin .leq (.tmp 77) (.tmp 78))⟩,
          ⟨(some 80), none, .p (.eqb false (.tmp 76) (.tmp 79))⟩,
          ⟨(some 81), none, .p (.mv (.tmp 80))⟩,
          ⟨(some 82), (some (81, true)), .p (.mv (.tmp 5))⟩,
          ⟨(some 83), (some (81, true)), .w (.call 10 [(.tmp 82), (.const (.int .i64 0)), (.const (.int .u64 0))])⟩,
          ⟨(some 84), (some (81, true)), .p (.ibin .eql (.tmp 83) (.const (.int .i64 0)))⟩,
          ⟨(some 85), (some (81, true)), .p (.mv (.tmp 0))⟩,
          ⟨(some 86), (some (81, true)), .p (.mv (.tmp 7))⟩,
          ⟨(some 87), (some (81, true)), .p (.ibin .leq (.tmp 85) (.tmp 86))⟩,
          ⟨(some 88), (some (81, true)), .p (.eqb false (.tmp 84) (.tmp 87))⟩,
          ⟨(some 89), none, .p (.pick (.tmp 81) (.tmp 88) (.const (.bool false)))⟩,
          ⟨(some 90), none, .p (.mv (.tmp 89))⟩,
          ⟨(some 91), (some (90, true)), .p (.mv (.tmp 5))⟩,
          ⟨(some 92), (some (90, true)), .w (.call 13 [(.tmp 91)])⟩,
          ⟨(some 93), (some (90, true)), .p (.mv (.tmp 0))⟩,
          ⟨(some 94), (some (90, true)), .p (.mv (.tmp 7))⟩,
          ⟨(some 95), (some (90, true)), .p (.ibin .leq (.tmp 93) (.tmp 94))⟩,
          ⟨(some 96), (some (90, true)), .p (.eqb false (.tmp 92) (.tmp 95))⟩,
          ⟨(some 97), none, .p (.pick (.tmp 90) (.tmp 96) (.const (.bool false)))⟩,
          ⟨(some 4), none, .p (.mv (.tmp 97))⟩])
       .ret)))))), [.tmp 4]⟩
theorem comp3 : compFunc Try.prog 3 = some a3 := by kernel_rfl
theorem callable3 : callable Try.prog 3 = true := by kernel_rfl

/-- treadle/treadlelaw18.IdealNext -/
def a5 : AFunc := ⟨2, (.seq
  (.region [⟨(some 2), none, .w (.box 33 (.tmp 0))⟩,
     ⟨(some 4), none, .p (.mv (.const (.bool false)))⟩])
  (.seq
   (.region [⟨(some 17), none, .rN 3 (.tmp 2)⟩,
      ⟨(some 18), none, .w (.call 7 [(.tmp 17)])⟩,
      ⟨(some 16), none, .p (.mv (.tmp 18))⟩,
      ⟨(some 19), none, .p (.extract 0 (.tmp 16))⟩,
      ⟨(some 20), none, .p (.extract 1 (.tmp 16))⟩,
      ⟨(some 6), none, .w (.alloc 26 [.int .i64 0, .int .i64 0, .int .i64 0])⟩,
      ⟨(some 5), none, .p (.mv (.tmp 19))⟩,
      ⟨none, none, .w (.stN 3 (.tmp 6) (.tmp 20))⟩])
   (.seq
    (.seq
     (.region [⟨(some 21), none, .w (.call 9 [])⟩,
        ⟨(some 22), none, .p (.not (.tmp 21))⟩,
        ⟨(some 23), none, .p (.mv (.tmp 22))⟩,
        ⟨(some 24), (some (23, false)), .p (.mv (.tmp 5))⟩,
        ⟨(some 25), (some (23, false)), .p (.eqp false (.tmp 24) (.const (.pointer none)))⟩,
        ⟨(some 26), (some (23, false)), .p (.fieldA 0 (.tmp 6))⟩,
        ⟨(some 27), (some (23, false)), .r1 (.tmp 26)⟩,
        ⟨(some 28), (some (23, false)), .p (.ibin .neq (.tmp 27) (.const (.int .i64 0)))⟩,
        ⟨(some 29), (some (23, false)), .p (.eqb true (.tmp 25) (.tmp 28))⟩,
        ⟨(some 30), none, .p (.pick (.tmp 23) (.const (.bool true)) (.tmp 29))⟩])
     (.cond (.tmp 30)
      (.seq
       (.region [⟨(some 4), none, .p (.mv (.const (.bool false)))⟩])
       .ret)
      .skip))
    (.seq
     (.seq
      (.region [⟨(some 31), none, .p (.mv (.tmp 5))⟩,
         ⟨(some 32), none, .p (.eqp false (.tmp 31) (.const (.pointer none)))⟩])
      (.cond (.tmp 32)
       (.seq
        (.region [⟨(some 4), none, .p (.mv (.const (.bool true)))⟩])
        .ret)
       .skip))
     (.seq
      (.region [⟨(some 7), none, .p (.mv (.const (.slice none 0 0)))⟩])
      (.seq
       (.seq
        (.region [⟨(some 33), none, .p (.mv (.tmp 1))⟩,
           ⟨(some 34), none, .p (.len false (.tmp 33))⟩,
           ⟨(some 35), none, .p (.mv (.const (.int .i64 0)))⟩])
        (.block 0
         (.loop
          (.seq
           (.region [⟨(some 36), none, .p (.ibin .lss (.tmp 35) (.tmp 34))⟩])
           (.seq
            (.cond (.tmp 36)
             .skip
             (.exit 0))
            (.seq
             (.block 1
              (.seq
               (.region [⟨(some 37), none, .p (.idxSl 2 (.tmp 33) (.tmp 35))⟩,
                  ⟨(some 38), none, .rN 2 (.tmp 37)⟩,
                  ⟨(some 9), none, .w (.alloc 54 [.int .i64 0, .int .u64 0])⟩,
                  ⟨none, none, .w (.stN 2 (.tmp 9) (.tmp 38))⟩])
               (.seq
                (.region [⟨(some 40), none, .p (.mv (.tmp 5))⟩,
                   ⟨(some 41), none, .p (.fieldA 0 (.tmp 9))⟩,
                   ⟨(some 42), none, .r1 (.tmp 41)⟩,
                   ⟨(some 43), none, .w (.call 22 [(.tmp 40), (.tmp 42)])⟩,
                   ⟨(some 39), none, .p (.mv (.tmp 43))⟩,
                   ⟨(some 44), none, .p (.extract 0 (.tmp 39))⟩,
                   ⟨(some 45), none, .p (.extract 1 (.tmp 39))⟩,
                   ⟨(some 10), none, .w (.alloc 38 [.int .i64 0, .int .i64 0, .int .i64 0, .int .i64 0, .int .u64 0, .slice none 0 0])⟩,
                   ⟨none, none, .w (.stN 6 (.tmp 10) (.tmp 44))⟩,
                   ⟨(some 11), none, .p (.mv (.tmp 45))⟩])
                (.seq
                 (.region [⟨(some 46), none, .p (.mv (.tmp 5))⟩,
                    ⟨(some 47), none, .p (.fieldA 0 (.tmp 9))⟩,
                    ⟨(some 48), none, .r1 (.tmp 47)⟩,
                    ⟨(some 49), none, .w (.call 11 [(.tmp 46), (.tmp 48)])⟩,
                    ⟨(some 50), none, .p (.mv (.tmp 5))⟩,
                    ⟨(some 51), none, .w (.call 13 [(.tmp 50)])⟩,
                    ⟨(some 12), none, .p (.mv (.tmp 49))⟩,
                    ⟨(some 13), none, .p (.mv (.tmp 51))⟩])
                 (.seq
                  (.region [⟨(some 14), none, .p (.mv (.const (.int .i64 0)))⟩])
                  (.seq
                   (.seq
                    (.region [⟨(some 52), none, .p (.fieldA 0 (.tmp 9))⟩,
                       ⟨(some 53), none, .r1 (.tmp 52)⟩,
                       ⟨(some 54), none, .p (.ibin .eql (.tmp 53) (.const (.int .i64 (-1))))⟩])
                    (.cond (.tmp 54)
                     (.region [⟨(some 55), none, .p (.mv (.tmp 5))⟩,
                        ⟨(some 56), none, .p (.fieldA 1 (.tmp 9))⟩,
                        ⟨(some 57), none, .r1 (.tmp 56)⟩,
                        ⟨(some 58), none, .w (.call 12 [(.tmp 55), (.tmp 57)])⟩,
                        ⟨(some 14), none, .p (.mv (.tmp 58))⟩])
                     (.region [⟨(some 59), none, .p (.mv (.tmp 5))⟩,
                        ⟨(some 60), none, .p (.fieldA 0 (.tmp 9))⟩,
                        ⟨(some 61), none, .r1 (.tmp 60)⟩,
                        ⟨(some 62), none, .p (.fieldA 1 (.tmp 9))⟩,
                        ⟨(some 63), none, .r1 (.tmp 62)⟩,
                        ⟨(some 64), none, .w (.call 10 [(.tmp 59), (.tmp 61), (.tmp 63)])⟩,
                        ⟨(some 14), none, .p (.mv (.tmp 64))⟩])))
                   (.seq
                    (.region [⟨(some 65), none, .p (.mv (.tmp 5))⟩,
                       ⟨(some 66), none, .w (.call 23 [(.tmp 65)])⟩,
                       ⟨(some 15), none, .p (.mv (.tmp 66))⟩])
                    (.seq
                     (.seq
                      (.region [⟨(some 67), none, .p (.mv (.tmp 11))⟩,
                         ⟨(some 68), none, .p (.mv (.tmp 67))⟩,
                         ⟨(some 69), (some (68, true)), .p (.mv (.tmp 12))⟩,
                         ⟨(some 70), (some (68, true)), .p (.ibin .neq (.tmp 69) (.const (.int .i64 1)))⟩,
                         ⟨(some 71), (some (68, true)), .p (.mv (.tmp 70))⟩,
                         ⟨(some 72), (some (71, false)), .p (.mv (.tmp 13))⟩,
                         ⟨(some 73), (some (68, true)), .p (.pick (.tmp 71) (.const (.bool true)) (.tmp 72))⟩,
                         ⟨(some 74), (some (68, true)), .p (.mv (.tmp 73))⟩,
                         ⟨(some 75), (some (74, false)), .p (.fieldA 0 (.tmp 10))⟩,
                         ⟨(some 76), (some (74, false)), .r1 (.tmp 75)⟩,
                         ⟨(some 77), (some (74, false)), .p (.ibin .lss (.tmp 76) (.const (.int .i64 1)))⟩,
                         ⟨(some 78), (some (68, true)), .p (.pick (.tmp 74) (.const (.bool true)) (.tmp 77))⟩,
                         ⟨(some 79), (some (68, true)), .p (.mv (.tmp 78))⟩,
                         ⟨(some 80), (some (79, false)), .p (.fieldA 0 (.tmp 10))⟩,
                         ⟨(some 81), (some (79, false)), .r1 (.tmp 80)⟩,
                         ⟨(some 82), (some (79, false)), .p (.ibin .gtr (.tmp 81) (.const (.int .i64 52)))⟩,
                         ⟨(some 83), (some (68, true)), .p (.pick (.tmp 79) (.const (.bool true)) (.tmp 82))⟩,
                         ⟨(some 84), (some (68, true)), .p (.mv (.tmp 83))⟩,
                         ⟨(some 85), (some (84, false)), .p (.mv (.tmp 14))⟩,
                         ⟨(some 86), (some (84, false)), .p (.ibin .neq (.tmp 85) (.const (.int .i64 0)))⟩,
                         ⟨(some 87), (some (68, true)), .p (.pick (.tmp 84) (.const (.bool true)) (.tmp 86))⟩,
                         ⟨(some 88), none, .p (.pick (.tmp 68) (.tmp 87) (.const (.bool false)))⟩])
                      (.cond (.tmp 88)
                       (.seq
                        (.region [⟨(some 4), none, .p (.mv (.const (.bool false)))⟩])
                        .ret)
                       .skip))
                     (.seq
                      (.seq
                       (.region [⟨(some 89), none, .p (.mv (.tmp 15))⟩,
                          ⟨(some 90), none, .p (.len false (.tmp 89))⟩,
                          ⟨(some 91), none, .p (.mv (.tmp 7))⟩,
                          ⟨(some 92), none, .p (.len false (.tmp 91))⟩,
                          ⟨(some 93), none, .p (.ibin .lss (.tmp 90) (.tmp 92))⟩,
                          ⟨(some 94), none, .p (.mv (.tmp 93))⟩,
                          ⟨(some 95), (some (94, false)), .p (.mv (.tmp 15))⟩,
                          ⟨(some 96), (some (94, false)), .p (.mv (.tmp 7))⟩,
                          ⟨(some 97), (some (94, false)), .p (.len false (.tmp 96))⟩,
                          ⟨(some 98), (some (94, false)), .p (.slc 3 (.tmp 95) none (some (.tmp 97)))⟩,
                          ⟨(some 99), (some (94, false)), .p (.mv (.tmp 7))⟩,
                          ⟨(some 100), (some (94, false)), .w (.call 19 [(.tmp 98), (.tmp 99)])⟩,
                          ⟨(some 101), (some (94, false)), .p (.not (.tmp 100))⟩,
                          ⟨(some 102), none, .p (.pick (.tmp 94) (.const (.bool true)) (.tmp 101))⟩,
                          ⟨(some 103), none, .p (.mv (.tmp 102))⟩,
                          ⟨(some 104), (some (103, false)), .p (.mv (.tmp 15))⟩,
                          ⟨(some 105), (some (103, false)), .p (.len false (.tmp 104))⟩,
                          ⟨(some 106), (some (103, false)), .p (.mv (.tmp 7))⟩,
                          ⟨(some 107), (some (103, false)), .p (.len false (.tmp 106))⟩,
                          ⟨(some 108), (some (103, false)), .p (.ibin .add (.tmp 107) (.const (.int .i64 2)))⟩,
                          ⟨(some 109), (some (103, false)), .p (.ibin .gtr (.tmp 105) (.tmp 108))⟩,
                          ⟨(some 110), none, .p (.pick (.tmp 103) (.const (.bool true)) (.tmp 109))⟩,
                          ⟨(some 111), none, .p (.mv (.tmp 110))⟩,
                          ⟨(some 112), (some (111, false)), .p (.mv (.tmp 13))⟩,
                          ⟨(some 113), (some (111, false)), .p (.mv (.tmp 112))⟩,
                          ⟨(some 114), (some (113, true)), .p (.mv (.tmp 14))⟩,
                          ⟨(some 115), (some (113, true)), .p (.ibin .eql (.tmp 114) (.const (.int .i64 0)))⟩,
                          ⟨(some 116), (some (113, true)), .p (.mv (.tmp 115))⟩,
                          ⟨(some 117), (some (116, false)), .p (.mv (.tmp 15))⟩,
                          ⟨(some 118), (some (116, false)), .p (.len false (.tmp 117))⟩,
                          ⟨(some 119), (some (116, false)), .p (.mv (.tmp 7))⟩,
                          ⟨(some 120), (some (116, false)), .p (.len false (.tmp 119))⟩,
                          ⟨(some 121), (some (116, false)), .p (.ibin .neq (.tmp 118) (.tmp 120))⟩,
                          ⟨(some 122), (some (113, true)), .p (.pick (.tmp 116) (.const (.bool true)) (.tmp 121))⟩,
                          ⟨(some 123), (some (111, false)), .p (.pick (.tmp 113) (.tmp 122) (.const (.bool false)))⟩,
                          ⟨(some 124), none, .p (.pick (.tmp 111) (.const (.bool true)) (.tmp 123))⟩])
                       (.cond (.tmp 124)
                        (.seq
                         (.region [⟨(some 4), none, .p (.mv (.const (.bool false)))⟩])
                         .ret)
                        .skip))
                      (.seq
                       (.seq
                        (.region [⟨(some 125), none, .p (.mv (.tmp 11))⟩,
                           ⟨(some 126), none, .p (.mv (.tmp 125))⟩,
                           ⟨(some 127), (some (126, true)), .p (.fieldA 0 (.tmp 10))⟩,
                           ⟨(some 128), (some (126, true)), .r1 (.tmp 127)⟩,
                           ⟨(some 129), (some (126, true)), .p (.ibin .eql (.tmp 128) (.const (.int .i64 48)))⟩,
                           ⟨(some 130), none, .p (.pick (.tmp 126) (.tmp 129) (.const (.bool false)))⟩,
                           ⟨(some 131), none, .p (.mv (.tmp 130))⟩,
                           ⟨(some 132), (some (131, true)), .p (.mv (.tmp 15))⟩,
                           ⟨(some 133), (some (131, true)), .p (.len false (.tmp 132))⟩,
                           ⟨(some 134), (some (131, true)), .p (.mv (.tmp 7))⟩,
                           ⟨(some 135), (some (131, true)), .p (.len false (.tmp 134))⟩,
                           ⟨(some 136), (some (131, true)), .p (.ibin .add (.tmp 135) (.const (.int .i64 1)))⟩,
                           ⟨(some 137), (some (131, true)), .p (.ibin .neq (.tmp 133) (.tmp 136))⟩,
                           ⟨(some 138), none, .p (.pick (.tmp 131) (.tmp 137) (.const (.bool false)))⟩,
                           ⟨(some 139), none, .p (.mv (.tmp 138))⟩,
                           ⟨(some 140), (some (139, false)), .p (.mv (.tmp 11))⟩,
                           ⟨(some 141), (some (139, false)), .p (.mv (.tmp 140))⟩,
                           ⟨(some 142), (some (141, true)), .p (.fieldA 0 (.tmp 10))⟩,
                           ⟨(some 143), (some (141, true)), .r1 (.tmp 142)⟩,
                           ⟨(some 144), (some (141, true)), .p (.ibin .eql (.tmp 143) (.const (.int .i64 52)))⟩,
                           ⟨(some 145), (some (139, false)), .p (.pick (.tmp 141) (.tmp 144) (.const (.bool false)))⟩,
                           ⟨(some 146), (some (139, false)), .p (.mv (.tmp 145))⟩,
                           ⟨(some 147), (some (146, true)), .p (.mv (.tmp 5))⟩,
                           ⟨(some 148), (some (146, true)), .w (.call 13 [(.tmp 147)])⟩,
                           ⟨(some 149), (some (146, true)), .p (.not (.tmp 148))⟩,
                           ⟨(some 150), (some (139, false)), .p (.pick (.tmp 146) (.tmp 149) (.const (.bool false)))⟩,
                           ⟨(some 151), none, .p (.pick (.tmp 139) (.const (.bool true)) (.tmp 150))⟩])
                        (.cond (.tmp 151)
                         (.seq
                          (.region [⟨(some 4), none, .p (.mv (.const (.bool false)))⟩])
                          .ret)
                         .skip))
                       (.region [⟨(some 152), none, .p (.mv (.tmp 15))⟩,
                          ⟨(some 7), none, .p (.mv (.tmp 152))⟩])))))))))))
             (.region [⟨(some 153), none, .p (.ibin .add (.tmp 35) (.const (.int .i64 1)))⟩,
                ⟨(some 35), none, .p (.mv (.tmp 153))⟩])))))))
       (.seq
        (.region [⟨(some 4), none, .p (.mv (.const (.bool true)))⟩])
        .ret))))))), [.tmp 4]⟩
theorem comp5 : compFunc Try.prog 5 = some a5 := by kernel_rfl
theorem callable5 : callable Try.prog 5 = true := by kernel_rfl

/-- treadle/ideal.New -/
def a7 : AFunc := ⟨1, (.seq
  (.region [⟨(some 1), none, .w (.box 33 (.tmp 0))⟩,
     ⟨(some 2), none, .p (.mv (.const (.pointer none)))⟩,
     ⟨(some 3), none, .w (.alloc 26 [.int .i64 0, .int .i64 0, .int .i64 0])⟩])
  (.seq
   (.seq
    (.region [⟨(some 6), none, .rN 3 (.tmp 1)⟩,
       ⟨(some 7), none, .w (.call 25 [(.tmp 6)])⟩,
       ⟨(some 4), none, .w (.alloc 26 [.int .i64 0, .int .i64 0, .int .i64 0])⟩,
       ⟨none, none, .w (.stN 3 (.tmp 4) (.tmp 7))⟩])
    (.seq
     (.region [⟨(some 8), none, .p (.fieldA 0 (.tmp 4))⟩,
        ⟨(some 9), none, .r1 (.tmp 8)⟩,
        ⟨(some 10), none, .p (.ibin .neq (.tmp 9) (.const (.int .i64 0)))⟩])
     (.cond (.tmp 10)
      (.seq
       (.draw [⟨0, ⟨(some 11), none, .rN 3 (.tmp 4)⟩, []⟩,
          ⟨1, ⟨(some 2), none, .p (.mv (.const (.pointer none)))⟩, []⟩,
          ⟨2, ⟨none, none, .w (.stN 3 (.tmp 3) (.tmp 11))⟩, []⟩])
       .ret)
      .skip)))
   (.seq
    (.draw [⟨0, ⟨(some 12), none, .rN 3 (.tmp 1)⟩, []⟩,
       ⟨2, ⟨(some 14), none, .p (.fieldA 1 (.tmp 1))⟩, []⟩,
       ⟨3, ⟨(some 15), none, .r1 (.tmp 14)⟩, []⟩,
       ⟨4, ⟨(some 16), none, .p (.len false (.tmp 15))⟩, []⟩,
       ⟨1, ⟨(some 13), none, .w (.call 26 [(.tmp 12)])⟩, [3]⟩,
       ⟨5, ⟨(some 17), none, .w (.mksl 35 8 [.int .u64 0] (.tmp 16) (.tmp 16))⟩, []⟩,
       ⟨6, ⟨(some 18), none, .w (.mksl 99 40 [.int .i64 0, .slice none 0 0, .pointer none] (.const (.int .i64 1)) (.const (.int .i64 1)))⟩, []⟩,
       ⟨7, ⟨(some 19), none, .p (.build [.slice none 0 0, .slice none 0 0, .slice none 0 0, .slice none 0 0, .slice none 0 0, .slice none 0 0, .int .u64 0, .slice none 0 0, .bool false, .int .i64 0] [(0, 3, (.tmp 13)), (3, 1, (.tmp 17)), (4, 1, (.tmp 18))])⟩, []⟩,
       ⟨8, ⟨(some 20), none, .w (.box 74 (.tmp 19))⟩, []⟩,
       ⟨9, ⟨(some 5), none, .p (.mv (.tmp 20))⟩, []⟩])
    (.seq
     (.region [⟨(some 21), none, .p (.mv (.tmp 5))⟩,
        ⟨(some 22), none, .w (.call 27 [(.tmp 21), (.const (.int .i64 0)), (.const (.slice none 0 0))])⟩])
     (.seq
      (.region [⟨(some 23), none, .p (.mv (.tmp 5))⟩,
         ⟨(some 24), none, .p (.build [.int .i64 0, .int .i64 0, .int .i64 0] [])⟩,
         ⟨(some 2), none, .p (.mv (.tmp 23))⟩,
         ⟨none, none, .w (.stN 3 (.tmp 3) (.tmp 24))⟩])
      .ret))))), [.tmp 2, .cN 3 3]⟩
theorem comp7 : compFunc Try.prog 7 = some a7 := by kernel_rfl
theorem callable7 : callable Try.prog 7 = true := by kernel_rfl

/-- treadle/treadlelaw18.awake -/
def a9 : AFunc := ⟨0, (.seq
  (.region [⟨(some 0), none, .p (.mv (.const (.bool false)))⟩])
  (.seq
   (.region [⟨(some 4), none, .w (.bslice 59 1 [.int .i64 0] [(0, 1, (.const (.int .i64 0)))])⟩,
      ⟨(some 5), none, .p (.build [.int .i64 0, .int .i64 0, .int .i64 0, .int .i64 0, .int .u64 0, .slice none 0 0] [(0, 1, (.const (.int .i64 1))), (4, 1, (.const (.int .u64 7)))])⟩,
      ⟨(some 6), none, .p (.build [.int .i64 0, .int .i64 0, .int .i64 0, .int .i64 0, .int .u64 0, .slice none 0 0] [(0, 1, (.const (.int .i64 48)))])⟩,
      ⟨(some 7), none, .p (.build [.int .i64 0, .int .i64 0, .int .i64 0, .int .i64 0, .int .u64 0, .slice none 0 0] [(0, 1, (.const (.int .i64 36)))])⟩,
      ⟨(some 8), none, .w (.bslice 38 3 [.int .i64 0, .int .i64 0, .int .i64 0, .int .i64 0, .int .u64 0, .slice none 0 0] [(0, 6, (.tmp 5)), (6, 6, (.tmp 6)), (12, 6, (.tmp 7))])⟩,
      ⟨(some 9), none, .p (.build [.int .i64 0, .slice none 0 0, .slice none 0 0, .slice none 0 0] [(1, 1, (.tmp 4)), (3, 1, (.tmp 8))])⟩,
      ⟨(some 10), none, .w (.bslice 64 1 [.int .i64 0, .slice none 0 0, .slice none 0 0, .slice none 0 0] [(0, 4, (.tmp 9))])⟩,
      ⟨(some 11), none, .p (.build [.slice none 0 0, .slice none 0 0, .slice none 0 0] [(2, 1, (.tmp 10))])⟩,
      ⟨(some 12), none, .w (.call 7 [(.tmp 11)])⟩,
      ⟨(some 3), none, .p (.mv (.tmp 12))⟩,
      ⟨(some 13), none, .p (.extract 0 (.tmp 3))⟩,
      ⟨(some 14), none, .p (.extract 1 (.tmp 3))⟩,
      ⟨(some 2), none, .w (.alloc 26 [.int .i64 0, .int .i64 0, .int .i64 0])⟩,
      ⟨(some 1), none, .p (.mv (.tmp 13))⟩,
      ⟨none, none, .w (.stN 3 (.tmp 2) (.tmp 14))⟩])
   (.seq
    (.seq
     (.region [⟨(some 15), none, .p (.mv (.tmp 1))⟩,
        ⟨(some 16), none, .p (.eqp false (.tmp 15) (.const (.pointer none)))⟩,
        ⟨(some 17), none, .p (.mv (.tmp 16))⟩,
        ⟨(some 18), (some (17, false)), .p (.fieldA 0 (.tmp 2))⟩,
        ⟨(some 19), (some (17, false)), .r1 (.tmp 18)⟩,
        ⟨(some 20), (some (17, false)), .p (.ibin .neq (.tmp 19) (.const (.int .i64 0)))⟩,
        ⟨(some 21), none, .p (.pick (.tmp 17) (.const (.bool true)) (.tmp 20))⟩,
        ⟨(some 22), none, .p (.mv (.tmp 21))⟩,
        ⟨(some 23), (some (22, false)), .p (.mv (.tmp 1))⟩,
        ⟨(some 24), (some (22, false)), .w (.call 10 [(.tmp 23), (.const (.int .i64 0)), (.const (.int .u64 0))])⟩,
        ⟨(some 25), (some (22, false)), .p (.ibin .neq (.tmp 24) (.const (.int .i64 0)))⟩,
        ⟨(some 26), none, .p (.pick (.tmp 22) (.const (.bool true)) (.tmp 25))⟩,
        ⟨(some 27), none, .p (.mv (.tmp 26))⟩,
        ⟨(some 28), (some (27, false)), .p (.mv (.tmp 1))⟩,
        ⟨(some 29), (some (27, false)), .w (.call 10 [(.tmp 28), (.const (.int .i64 0)), (.const (.int .u64 0))])⟩,
        ⟨(some 30), (some (27, false)), .p (.ibin .neq (.tmp 29) (.const (.int .i64 0)))⟩,
        ⟨(some 31), none, .p (.pick (.tmp 27) (.const (.bool true)) (.tmp 30))⟩,
        ⟨(some 32), none, .p (.mv (.tmp 31))⟩,
        ⟨(some 33), (some (32, false)), .p (.mv (.tmp 1))⟩,
        ⟨(some 34), (some (32, false)), .w (.call 10 [(.tmp 33), (.const (.int .i64 1)), (.const (.int .u64 0))])⟩,
        ⟨(some 35), (some (32, false)), .p (.ibin .neq (.tmp 34) (.const (.int .i64 4)))⟩,
        ⟨(some 36), none, .p (.pick (.tmp 32) (.const (.bool true)) (.tmp 35))⟩,
        ⟨(some 37), none, .p (.mv (.tmp 36))⟩,
        ⟨(some 38), (some (37, false)), .p (.mv (.tmp 1))⟩,
        ⟨(some 39), (some (37, false)), .w (.call 10 [(.tmp 38), (.const (.int .i64 0)), (.const (.int .u64 0))])⟩,
        ⟨(some 40), (some (37, false)), .p (.ibin .neq (.tmp 39) (.const (.int .i64 0)))⟩,
        ⟨(some 41), none, .p (.pick (.tmp 37) (.const (.bool true)) (.tmp 40))⟩])
     (.cond (.tmp 41)
      (.seq
       (.region [⟨(some 0), none, .p (.mv (.const (.bool false)))⟩])
       .ret)
      .skip))
    (.seq
     (.region [⟨(some 42), none, .p (.mv (.tmp 1))⟩,
        ⟨(some 43), none, .w (.call 13 [(.tmp 42)])⟩,
        ⟨(some 44), none, .p (.mv (.tmp 43))⟩,
        ⟨(some 45), (some (44, true)), .p (.mv (.tmp 1))⟩,
        ⟨(some 46), (some (44, true)), .w (.call 23 [(.tmp 45)])⟩,
        ⟨(some 47), (some (44, true)), .p (.build [.int .i64 0, .int .i64 0, .int .u64 0] [(0, 1, (.const (.int .i64 1))), (2, 1, (.const (.int .u64 7)))])⟩,
        ⟨(some 48), (some (44, true)), .p (.build [.int .i64 0, .int .i64 0, .int .u64 0] [(0, 1, (.const (.int .i64 3)))])⟩,
        ⟨(some 49), (some (44, true)), .w (.bslice 50 2 [.int .i64 0, .int .i64 0, .int .u64 0] [(0, 3, (.tmp 47)), (3, 3, (.tmp 48))])⟩,
        ⟨(some 50), (some (44, true)), .w (.call 19 [(.tmp 46), (.tmp 49)])⟩,
        ⟨(some 51), none, .p (.pick (.tmp 44) (.tmp 50) (.const (.bool false)))⟩,
        ⟨(some 0), none, .p (.mv (.tmp 51))⟩])
     .ret)))), [.tmp 0]⟩
theorem comp9 : compFunc Try.prog 9 = some a9 := by kernel_rfl
theorem callable9 : callable Try.prog 9 = true := by kernel_rfl

/-- (*treadle/ideal.Ideal).State -/
def a11 : AFunc := ⟨2, (.seq
  (.region [⟨(some 4), none, .p (.mv (.const (.int .i64 0)))⟩])
  (.seq
   (.seq
    (.region [⟨(some 5), none, .p (.mv (.tmp 0))⟩,
       ⟨(some 6), none, .p (.eqp false (.tmp 5) (.const (.pointer none)))⟩,
       ⟨(some 7), none, .p (.mv (.tmp 6))⟩,
       ⟨(some 8), (some (7, false)), .p (.mv (.tmp 1))⟩,
       ⟨(some 9), (some (7, false)), .p (.ibin .lss (.tmp 8) (.const (.int .i64 0)))⟩,
       ⟨(some 10), none, .p (.pick (.tmp 7) (.const (.bool true)) (.tmp 9))⟩,
       ⟨(some 11), none, .p (.mv (.tmp 10))⟩,
       ⟨(some 12), (some (11, false)), .p (.mv (.tmp 1))⟩,
       ⟨(some 13), (some (11, false)), .p (.mv (.tmp 0))⟩,
       ⟨(some 14), (some (11, false)), .p (.nilck (.tmp 13))⟩,
       ⟨(some 15), (some (11, false)), .p (.fieldA 5 (.tmp 14))⟩,
       ⟨(some 16), (some (11, false)), .r1 (.tmp 15)⟩,
       ⟨(some 17), (some (11, false)), .p (.len false (.tmp 16))⟩,
       ⟨(some 18), (some (11, false)), .p (.ibin .geq (.tmp 12) (.tmp 17))⟩,
       ⟨(some 19), none, .p (.pick (.tmp 11) (.const (.bool true)) (.tmp 18))⟩])
    (.cond (.tmp 19)
     (.seq
      (.region [⟨(some 4), none, .p (.mv (.const (.int .i64 0)))⟩])
      .ret)
     .skip))
   (.seq
    (.region [⟨(some 20), none, .p (.mv (.tmp 0))⟩,
       ⟨(some 21), none, .p (.nilck (.tmp 20))⟩,
       ⟨(some 22), none, .p (.fieldA 5 (.tmp 21))⟩,
       ⟨(some 23), none, .r1 (.tmp 22)⟩,
       ⟨(some 24), none, .p (.mv (.tmp 1))⟩,
       ⟨(some 25), none, .p (.idxSl 1 (.tmp 23) (.tmp 24))⟩,
       ⟨(some 26), none, .r1 (.tmp 25)⟩,
       ⟨(some 27), none, .p (.nilck (.tmp 26))⟩,
       ⟨(some 28), none, .p (.fieldA 0 (.tmp 27))⟩,
       ⟨(some 29), none, .r1 (.tmp 28)⟩,
       ⟨(some 4), none, .p (.mv (.tmp 29))⟩])
    .ret))), [.tmp 4]⟩
theorem comp11 : compFunc Try.prog 11 = some a11 := by kernel_rfl
theorem callable11 : callable Try.prog 11 = true := by kernel_rfl

/-- (*treadle/ideal.Ideal).Ended -/
def a13 : AFunc := ⟨1, (.seq
  (.region [⟨(some 2), none, .p (.mv (.const (.bool false)))⟩])
  (.seq
   (.region [⟨(some 3), none, .p (.mv (.tmp 0))⟩,
      ⟨(some 4), none, .p (.eqp true (.tmp 3) (.const (.pointer none)))⟩,
      ⟨(some 5), none, .p (.mv (.tmp 4))⟩,
      ⟨(some 6), (some (5, true)), .p (.mv (.tmp 0))⟩,
      ⟨(some 7), (some (5, true)), .p (.nilck (.tmp 6))⟩,
      ⟨(some 8), (some (5, true)), .p (.fieldA 8 (.tmp 7))⟩,
      ⟨(some 9), (some (5, true)), .r1 (.tmp 8)⟩,
      ⟨(some 10), none, .p (.pick (.tmp 5) (.tmp 9) (.const (.bool false)))⟩,
      ⟨(some 2), none, .p (.mv (.tmp 10))⟩])
   .ret)), [.tmp 2]⟩
theorem comp13 : compFunc Try.prog 13 = some a13 := by kernel_rfl
theorem callable13 : callable Try.prog 13 = true := by kernel_rfl

/-- treadle/flo.Sub -/
def a15 : AFunc := ⟨2, (.seq
  (.region [⟨(some 4), none, .p (.mv (.const (.int .u64 0)))⟩])
  (.seq
   (.region [⟨(some 5), none, .p (.mv (.tmp 0))⟩,
      ⟨(some 6), none, .w (.call 34 [(.tmp 5)])⟩,
      ⟨(some 7), none, .p (.mv (.tmp 1))⟩,
      ⟨(some 8), none, .w (.call 34 [(.tmp 7)])⟩,
      ⟨(some 9), none, .w (.ext (.fbin .sub) [(.tmp 6), (.tmp 8)])⟩,
      ⟨(some 10), none, .w (.call 33 [(.tmp 9)])⟩,
      ⟨(some 4), none, .p (.mv (.tmp 10))⟩])
   .ret)), [.tmp 4]⟩
theorem comp15 : compFunc Try.prog 15 = some a15 := by kernel_rfl
theorem callable15 : callable Try.prog 15 = true := by kernel_rfl

/-- treadle/flo.Div -/
def a17 : AFunc := ⟨2, (.seq
  (.region [⟨(some 4), none, .p (.mv (.const (.int .u64 0)))⟩])
  (.seq
   (.region [⟨(some 5), none, .p (.mv (.tmp 0))⟩,
      ⟨(some 6), none, .w (.call 34 [(.tmp 5)])⟩,
      ⟨(some 7), none, .p (.mv (.tmp 1))⟩,
      ⟨(some 8), none, .w (.call 34 [(.tmp 7)])⟩,
      ⟨(some 9), none, .w (.ext (.fbin .quo) [(.tmp 6), (.tmp 8)])⟩,
      ⟨(some 10), none, .w (.call 33 [(.tmp 9)])⟩,
      ⟨(some 4), none, .p (.mv (.tmp 10))⟩])
   .ret)), [.tmp 4]⟩
theorem comp17 : compFunc Try.prog 17 = some a17 := by kernel_rfl
theorem callable17 : callable Try.prog 17 = true := by kernel_rfl

/-- treadle/treadleref18.SameTrace -/
def a19 : AFunc := ⟨2, (.seq
  (.region [⟨(some 4), none, .p (.mv (.const (.bool false)))⟩])
  (.seq
   (.seq
    (.region [⟨(some 6), none, .p (.mv (.tmp 0))⟩,
       ⟨(some 7), none, .p (.len false (.tmp 6))⟩,
       ⟨(some 8), none, .p (.mv (.tmp 1))⟩,
       ⟨(some 9), none, .p (.len false (.tmp 8))⟩,
       ⟨(some 10), none, .p (.ibin .neq (.tmp 7) (.tmp 9))⟩])
    (.cond (.tmp 10)
     (.seq
      (.region [⟨(some 4), none, .p (.mv (.const (.bool false)))⟩])
      .ret)
     .skip))
   (.seq
    (.seq
     (.region [⟨(some 5), none, .p (.mv (.const (.int .i64 0)))⟩])
     (.block 0
      (.loop
       (.seq
        (.seq
         (.region [⟨(some 11), none, .p (.mv (.tmp 5))⟩,
            ⟨(some 12), none, .p (.mv (.tmp 0))⟩,
            ⟨(some 13), none, .p (.len false (.tmp 12))⟩,
            ⟨(some 14), none, .p (.ibin .lss (.tmp 11) (.tmp 13))⟩])
         (.cond (.tmp 14)
          .skip
          (.exit 0)))
        (.seq
         (.block 1
          (.seq
           (.draw [⟨0, ⟨(some 17), none, .p (.mv (.tmp 0))⟩, []⟩,
              ⟨1, ⟨(some 18), none, .p (.mv (.tmp 5))⟩, []⟩,
              ⟨2, ⟨(some 19), none, .p (.idxSl 3 (.tmp 17) (.tmp 18))⟩, []⟩,
              ⟨3, ⟨(some 20), none, .rN 3 (.tmp 19)⟩, []⟩,
              ⟨4, ⟨(some 21), none, .p (.mv (.tmp 1))⟩, []⟩,
              ⟨5, ⟨(some 22), none, .p (.mv (.tmp 5))⟩, []⟩,
              ⟨6, ⟨(some 23), none, .p (.idxSl 3 (.tmp 21) (.tmp 22))⟩, []⟩,
              ⟨7, ⟨(some 24), none, .rN 3 (.tmp 23)⟩, []⟩,
              ⟨8, ⟨(some 25), none, .p (.eqi true [0, 1, 2] (.tmp 20) (.tmp 24))⟩, []⟩])
           (.cond (.tmp 25)
            (.seq
             (.region [⟨(some 4), none, .p (.mv (.const (.bool false)))⟩])
             .ret)
            .skip)))
         (.region [⟨(some 15), none, .p (.mv (.tmp 5))⟩,
            ⟨(some 16), none, .p (.ibin .add (.tmp 15) (.const (.int .i64 1)))⟩,
            ⟨(some 5), none, .p (.mv (.tmp 16))⟩]))))))
    (.seq
     (.region [⟨(some 4), none, .p (.mv (.const (.bool true)))⟩])
     .ret)))), [.tmp 4]⟩
theorem comp19 : compFunc Try.prog 19 = some a19 := by kernel_rfl
theorem callable19 : callable Try.prog 19 = true := by kernel_rfl

/-- treadle/flo.ToInt -/
def a21 : AFunc := ⟨1, (.seq
  (.region [⟨(some 2), none, .p (.mv (.const (.int .i64 0)))⟩])
  (.seq
   (.region [⟨(some 4), none, .p (.mv (.tmp 0))⟩,
      ⟨(some 5), none, .w (.call 34 [(.tmp 4)])⟩,
      ⟨(some 3), none, .p (.mv (.tmp 5))⟩])
   (.block 0
    (.seq
     (.region [⟨(some 9), none, .p (.mv (.tmp 3))⟩,
        ⟨(some 10), none, .p (.mv (.tmp 3))⟩,
        ⟨(some 11), none, .w (.ext (.fcmp .neq) [(.tmp 9), (.tmp 10)])⟩,
        ⟨(some 8), none, .p (.mv (.tmp 11))⟩])
     (.cond (.tmp 8)
      (.seq
       (.region [⟨(some 2), none, .p (.mv (.const (.int .i64 0)))⟩])
       .ret)
      (.seq
       (.region [⟨(some 13), none, .p (.mv (.tmp 3))⟩,
          ⟨(some 14), none, .w (.ext (.fcmp .geq) [(.tmp 13), (.const (.float .f64 4890909195324358656))])⟩,
          ⟨(some 12), none, .p (.mv (.tmp 14))⟩])
       (.cond (.tmp 12)
        (.seq
         (.region [⟨(some 2), none, .p (.mv (.const (.int .i64 9223372036854775807)))⟩])
         .ret)
        (.seq
         (.region [⟨(some 16), none, .p (.mv (.tmp 3))⟩,
            ⟨(some 17), none, .w (.ext (.fcmp .lss) [(.tmp 16), (.const (.float .f64 14114281232179134464))])⟩,
            ⟨(some 15), none, .p (.mv (.tmp 17))⟩])
         (.cond (.tmp 15)
          (.seq
           (.region [⟨(some 2), none, .p (.mv (.const (.int .i64 (-9223372036854775808))))⟩])
           .ret)
          (.seq
           (.region [⟨(some 6), none, .p (.mv (.tmp 3))⟩,
              ⟨(some 7), none, .w (.ext (.ftoi .i64) [(.tmp 6)])⟩,
              ⟨(some 2), none, .p (.mv (.tmp 7))⟩])
           .ret)))))))))), [.tmp 2]⟩
theorem comp21 : compFunc Try.prog 21 = some a21 := by kernel_rfl
theorem callable21 : callable Try.prog 21 = true := by kernel_rfl

/-- (*treadle/ideal.Ideal).Trace -/
def a23 : AFunc := ⟨1, (.seq
  (.region [⟨(some 2), none, .p (.mv (.const (.slice none 0 0)))⟩])
  (.seq
   (.seq
    (.region [⟨(some 3), none, .p (.mv (.tmp 0))⟩,
       ⟨(some 4), none, .p (.eqp false (.tmp 3) (.const (.pointer none)))⟩])
    (.cond (.tmp 4)
     (.seq
      (.region [⟨(some 2), none, .p (.mv (.const (.slice none 0 0)))⟩])
      .ret)
     .skip))
   (.seq
    (.region [⟨(some 5), none, .p (.mv (.tmp 0))⟩,
       ⟨(some 6), none, .p (.nilck (.tmp 5))⟩,
       ⟨(some 7), none, .p (.fieldA 7 (.tmp 6))⟩,
       ⟨(some 8), none, .r1 (.tmp 7)⟩,
       ⟨(some 9), none, .w (.app 50 24 [.int .i64 0, .int .i64 0, .int .u64 0] (.const (.slice none 0 0)) (.tmp 8))⟩,
       ⟨(some 2), none, .p (.mv (.tmp 9))⟩])
    .ret))), [.tmp 2]⟩
theorem comp23 : compFunc Try.prog 23 = some a23 := by kernel_rfl
theorem callable23 : callable Try.prog 23 = true := by kernel_rfl

/-- treadle/verify.Check -/
def a25 : AFunc := ⟨1, (.seq
  (.region [⟨(some 1), none, .w (.box 33 (.tmp 0))⟩,
     ⟨(some 2), none, .w (.alloc 26 [.int .i64 0, .int .i64 0, .int .i64 0])⟩])
  (.seq
   (.region [⟨(some 14), none, .rN 3 (.tmp 1)⟩,
      ⟨(some 15), none, .p (.build [.slice none 0 0, .slice none 0 0, .slice none 0 0, .int .i64 0, .slice none 0 0, .slice none 0 0, .slice none 0 0, .int .i64 0, .int .i64 0, .int .i64 0, .int .i64 0, .int .i64 0, .int .u64 0, .slice none 0 0] [(0, 3, (.tmp 14))])⟩,
      ⟨(some 16), none, .w (.box 104 (.tmp 15))⟩,
      ⟨(some 3), none, .p (.mv (.tmp 16))⟩])
   (.seq
    (.seq
     (.region [⟨(some 18), none, .p (.mv (.tmp 3))⟩,
        ⟨(some 19), none, .w (.call 41 [(.tmp 18)])⟩,
        ⟨(some 17), none, .p (.mv (.tmp 19))⟩,
        ⟨(some 20), none, .p (.extract 0 (.tmp 17))⟩,
        ⟨(some 21), none, .p (.extract 1 (.tmp 17))⟩,
        ⟨(some 4), none, .p (.mv (.tmp 20))⟩,
        ⟨(some 5), none, .p (.mv (.tmp 21))⟩])
     (.seq
      (.region [⟨(some 22), none, .p (.mv (.tmp 4))⟩,
         ⟨(some 23), none, .p (.ibin .neq (.tmp 22) (.const (.int .i64 0)))⟩])
      (.cond (.tmp 23)
       (.seq
        (.region [⟨(some 24), none, .p (.mv (.tmp 4))⟩,
           ⟨(some 25), none, .p (.mv (.tmp 5))⟩,
           ⟨(some 26), none, .p (.build [.int .i64 0, .int .i64 0, .int .i64 0] [(0, 1, (.tmp 24)), (1, 1, (.const (.int .i64 (-1)))), (2, 1, (.tmp 25))])⟩,
           ⟨none, none, .w (.stN 3 (.tmp 2) (.tmp 26))⟩])
        .ret)
       .skip)))
    (.seq
     (.seq
      (.region [⟨(some 27), none, .p (.fieldA 2 (.tmp 1))⟩,
         ⟨(some 28), none, .r1 (.tmp 27)⟩,
         ⟨(some 29), none, .p (.len false (.tmp 28))⟩,
         ⟨(some 30), none, .p (.mv (.const (.int .i64 0)))⟩])
      (.block 0
       (.loop
        (.seq
         (.region [⟨(some 31), none, .p (.ibin .lss (.tmp 30) (.tmp 29))⟩])
         (.seq
          (.cond (.tmp 31)
           .skip
           (.exit 0))
          (.seq
           (.block 1
            (.seq
             (.region [⟨(some 32), none, .p (.mv (.tmp 30))⟩,
                ⟨(some 33), none, .p (.idxSl 4 (.tmp 28) (.tmp 30))⟩,
                ⟨(some 34), none, .rN 4 (.tmp 33)⟩,
                ⟨(some 7), none, .w (.alloc 64 [.int .i64 0, .slice none 0 0, .slice none 0 0, .slice none 0 0])⟩,
                ⟨(some 6), none, .p (.mv (.tmp 32))⟩,
                ⟨none, none, .w (.stN 4 (.tmp 7) (.tmp 34))⟩])
             (.seq
              (.region [⟨(some 35), none, .p (.mv (.tmp 3))⟩,
                 ⟨(some 36), none, .rN 4 (.tmp 7)⟩,
                 ⟨(some 37), none, .p (.nilck (.tmp 35))⟩,
                 ⟨(some 38), none, .p (.fieldA 3 (.tmp 37))⟩,
                 ⟨none, none, .w (.stN 4 (.tmp 38) (.tmp 36))⟩])
              (.seq
               (.region [⟨(some 39), none, .p (.mv (.tmp 3))⟩,
                  ⟨(some 40), none, .p (.mv (.tmp 6))⟩,
                  ⟨(some 41), none, .p (.ibin .eql (.tmp 40) (.const (.int .i64 0)))⟩,
                  ⟨(some 42), none, .w (.call 42 [(.tmp 39), (.tmp 41)])⟩,
                  ⟨(some 8), none, .p (.mv (.tmp 42))⟩])
               (.seq
                (.region [⟨(some 43), none, .p (.mv (.tmp 8))⟩,
                   ⟨(some 44), none, .p (.ibin .neq (.tmp 43) (.const (.int .i64 0)))⟩])
                (.cond (.tmp 44)
                 (.seq
                  (.region [⟨(some 45), none, .p (.mv (.tmp 8))⟩,
                     ⟨(some 46), none, .p (.mv (.tmp 6))⟩,
                     ⟨(some 47), none, .p (.build [.int .i64 0, .int .i64 0, .int .i64 0] [(0, 1, (.tmp 45)), (1, 1, (.tmp 46))])⟩,
                     ⟨none, none, .w (.stN 3 (.tmp 2) (.tmp 47))⟩])
                  .ret)
                 .skip))))))
           (.region [⟨(some 48), none, .p (.ibin .add (.tmp 30) (.const (.int .i64 1)))⟩,
              ⟨(some 30), none, .p (.mv (.tmp 48))⟩])))))))
     (.seq
      (.seq
       (.region [⟨(some 49), none, .p (.fieldA 2 (.tmp 1))⟩,
          ⟨(some 50), none, .r1 (.tmp 49)⟩,
          ⟨(some 51), none, .p (.len false (.tmp 50))⟩,
          ⟨(some 52), none, .p (.mv (.const (.int .i64 0)))⟩])
       (.block 2
        (.loop
         (.seq
          (.region [⟨(some 53), none, .p (.ibin .lss (.tmp 52) (.tmp 51))⟩])
          (.seq
           (.cond (.tmp 53)
            .skip
            (.exit 2))
           (.seq
            (.block 3
             (.seq
              (.region [⟨(some 54), none, .p (.mv (.tmp 52))⟩,
                 ⟨(some 55), none, .p (.idxSl 4 (.tmp 50) (.tmp 52))⟩,
                 ⟨(some 56), none, .rN 4 (.tmp 55)⟩,
                 ⟨(some 10), none, .w (.alloc 64 [.int .i64 0, .slice none 0 0, .slice none 0 0, .slice none 0 0])⟩,
                 ⟨(some 9), none, .p (.mv (.tmp 54))⟩,
                 ⟨none, none, .w (.stN 4 (.tmp 10) (.tmp 56))⟩])
              (.seq
               (.region [⟨(some 57), none, .p (.mv (.tmp 3))⟩,
                  ⟨(some 58), none, .rN 4 (.tmp 10)⟩,
                  ⟨(some 59), none, .p (.nilck (.tmp 57))⟩,
                  ⟨(some 60), none, .p (.fieldA 3 (.tmp 59))⟩,
                  ⟨none, none, .w (.stN 4 (.tmp 60) (.tmp 58))⟩])
               (.seq
                (.region [⟨(some 61), none, .p (.fieldA 3 (.tmp 10))⟩,
                   ⟨(some 62), none, .r1 (.tmp 61)⟩,
                   ⟨(some 63), none, .p (.len false (.tmp 62))⟩,
                   ⟨(some 64), none, .p (.mv (.const (.int .i64 0)))⟩])
                (.block 4
                 (.loop
                  (.seq
                   (.region [⟨(some 65), none, .p (.ibin .lss (.tmp 64) (.tmp 63))⟩])
                   (.seq
                    (.cond (.tmp 65)
                     .skip
                     (.exit 4))
                    (.seq
                     (.block 5
                      (.seq
                       (.region [⟨(some 66), none, .p (.mv (.tmp 64))⟩,
                          ⟨(some 67), none, .p (.idxSl 6 (.tmp 62) (.tmp 64))⟩,
                          ⟨(some 68), none, .rN 6 (.tmp 67)⟩,
                          ⟨(some 12), none, .w (.alloc 38 [.int .i64 0, .int .i64 0, .int .i64 0, .int .i64 0, .int .u64 0, .slice none 0 0])⟩,
                          ⟨(some 11), none, .p (.mv (.tmp 66))⟩,
                          ⟨none, none, .w (.stN 6 (.tmp 12) (.tmp 68))⟩])
                       (.seq
                        (.draw [⟨0, ⟨(some 69), none, .p (.mv (.tmp 3))⟩, []⟩,
                           ⟨1, ⟨(some 70), none, .p (.mv (.tmp 3))⟩, []⟩,
                           ⟨2, ⟨(some 71), none, .p (.mv (.tmp 11))⟩, []⟩,
                           ⟨3, ⟨(some 72), none, .rN 6 (.tmp 12)⟩, []⟩,
                           ⟨4, ⟨(some 73), none, .p (.nilck (.tmp 69))⟩, []⟩,
                           ⟨5, ⟨(some 74), none, .p (.fieldA 7 (.tmp 73))⟩, []⟩,
                           ⟨6, ⟨none, none, .w (.st1 (.tmp 74) (.tmp 71))⟩, [3]⟩,
                           ⟨7, ⟨(some 75), none, .p (.nilck (.tmp 70))⟩, []⟩,
                           ⟨8, ⟨(some 76), none, .p (.fieldA 8 (.tmp 75))⟩, []⟩,
                           ⟨9, ⟨none, none, .w (.stN 6 (.tmp 76) (.tmp 72))⟩, []⟩])
                        (.seq
                         (.region [⟨(some 77), none, .p (.mv (.tmp 3))⟩,
                            ⟨(some 78), none, .w (.call 43 [(.tmp 77)])⟩,
                            ⟨(some 13), none, .p (.mv (.tmp 78))⟩])
                         (.seq
                          (.region [⟨(some 79), none, .p (.mv (.tmp 13))⟩,
                             ⟨(some 80), none, .p (.ibin .neq (.tmp 79) (.const (.int .i64 0)))⟩])
                          (.cond (.tmp 80)
                           (.seq
                            (.region [⟨(some 81), none, .p (.mv (.tmp 13))⟩,
                               ⟨(some 82), none, .p (.mv (.tmp 9))⟩,
                               ⟨(some 83), none, .p (.mv (.tmp 11))⟩,
                               ⟨(some 84), none, .p (.build [.int .i64 0, .int .i64 0, .int .i64 0] [(0, 1, (.tmp 81)), (1, 1, (.tmp 82)), (2, 1, (.tmp 83))])⟩,
                               ⟨none, none, .w (.stN 3 (.tmp 2) (.tmp 84))⟩])
                            .ret)
                           .skip))))))
                     (.region [⟨(some 85), none, .p (.ibin .add (.tmp 64) (.const (.int .i64 1)))⟩,
                        ⟨(some 64), none, .p (.mv (.tmp 85))⟩]))))))))))
            (.region [⟨(some 86), none, .p (.ibin .add (.tmp 52) (.const (.int .i64 1)))⟩,
               ⟨(some 52), none, .p (.mv (.tmp 86))⟩])))))))
      (.seq
       (.region [⟨(some 87), none, .p (.build [.int .i64 0, .int .i64 0, .int .i64 0] [])⟩,
          ⟨none, none, .w (.stN 3 (.tmp 2) (.tmp 87))⟩])
       .ret)))))), [.cN 3 2]⟩
theorem comp25 : compFunc Try.prog 25 = some a25 := by kernel_rfl
theorem callable25 : callable Try.prog 25 = true := by kernel_rfl

/-- (*treadle/ideal.Ideal).begin -/
def a27 : AFunc := ⟨3, (.seq
  (.region [⟨(some 7), none, .p (.build [.int .i64 0, .int .u64 0, .bool false, .slice none 0 0, .int .u64 0, .bool false, .int .i64 0, .bool false] [(0, 1, (.const (.int .i64 1)))])⟩,
     ⟨(some 8), none, .w (.box 78 (.tmp 7))⟩,
     ⟨(some 6), none, .p (.mv (.tmp 8))⟩])
  (.seq
   (.region [⟨(some 9), none, .p (.mv (.tmp 6))⟩,
      ⟨(some 10), none, .p (.mv (.tmp 0))⟩,
      ⟨(some 11), none, .p (.mv (.tmp 1))⟩,
      ⟨(some 12), none, .p (.mv (.tmp 2))⟩,
      ⟨(some 13), none, .w (.call 45 [(.tmp 10), (.tmp 11), (.tmp 12)])⟩,
      ⟨(some 14), none, .w (.call 44 [(.tmp 9), (.tmp 13)])⟩])
   (.region [⟨(some 15), none, .p (.mv (.tmp 0))⟩,
      ⟨(some 16), none, .p (.mv (.tmp 0))⟩,
      ⟨(some 17), none, .p (.nilck (.tmp 16))⟩,
      ⟨(some 18), none, .p (.fieldA 5 (.tmp 17))⟩,
      ⟨(some 19), none, .r1 (.tmp 18)⟩,
      ⟨(some 20), none, .p (.mv (.tmp 6))⟩,
      ⟨(some 21), none, .w (.bslice 79 1 [.pointer none] [(0, 1, (.tmp 20))])⟩,
      ⟨(some 22), none, .w (.app 79 8 [.pointer none] (.tmp 19) (.tmp 21))⟩,
      ⟨(some 23), none, .p (.nilck (.tmp 15))⟩,
      ⟨(some 24), none, .p (.fieldA 5 (.tmp 23))⟩,
      ⟨none, none, .w (.st1 (.tmp 24) (.tmp 22))⟩]))), []⟩
theorem comp27 : compFunc Try.prog 27 = some a27 := by kernel_rfl
theorem callable27 : callable Try.prog 27 = true := by kernel_rfl

/-- (*treadle/ideal.routine).top -/
def a29 : AFunc := ⟨1, (.seq
  (.region [⟨(some 2), none, .p (.mv (.const (.pointer none)))⟩])
  (.seq
   (.draw [⟨0, ⟨(some 3), none, .p (.mv (.tmp 0))⟩, []⟩,
      ⟨1, ⟨(some 4), none, .p (.nilck (.tmp 3))⟩, []⟩,
      ⟨2, ⟨(some 5), none, .p (.fieldA 3 (.tmp 4))⟩, []⟩,
      ⟨3, ⟨(some 6), none, .r1 (.tmp 5)⟩, []⟩,
      ⟨4, ⟨(some 7), none, .p (.mv (.tmp 0))⟩, []⟩,
      ⟨5, ⟨(some 8), none, .p (.nilck (.tmp 7))⟩, []⟩,
      ⟨6, ⟨(some 9), none, .p (.fieldA 3 (.tmp 8))⟩, []⟩,
      ⟨7, ⟨(some 10), none, .r1 (.tmp 9)⟩, []⟩,
      ⟨8, ⟨(some 11), none, .p (.len false (.tmp 10))⟩, []⟩,
      ⟨9, ⟨(some 12), none, .p (.ibin .sub (.tmp 11) (.const (.int .i64 1)))⟩, []⟩,
      ⟨10, ⟨(some 13), none, .p (.idxSl 1 (.tmp 6) (.tmp 12))⟩, []⟩,
      ⟨11, ⟨(some 14), none, .r1 (.tmp 13)⟩, []⟩,
      ⟨12, ⟨(some 2), none, .p (.mv (.tmp 14))⟩, []⟩])
   .ret)), [.tmp 2]⟩
theorem comp29 : compFunc Try.prog 29 = some a29 := by kernel_rfl
theorem callable29 : callable Try.prog 29 = true := by kernel_rfl

/-- (*treadle/ideal.Ideal).stuck -/
def a31 : AFunc := ⟨1, (.seq
  (.region [⟨(some 2), none, .p (.mv (.const (.bool false)))⟩])
  (.seq
   (.seq
    (.region [⟨(some 5), none, .p (.mv (.tmp 0))⟩,
       ⟨(some 6), none, .p (.nilck (.tmp 5))⟩,
       ⟨(some 7), none, .p (.fieldA 5 (.tmp 6))⟩,
       ⟨(some 8), none, .r1 (.tmp 7)⟩,
       ⟨(some 9), none, .p (.len false (.tmp 8))⟩,
       ⟨(some 10), none, .p (.mv (.const (.int .i64 0)))⟩])
    (.block 0
     (.loop
      (.seq
       (.region [⟨(some 11), none, .p (.ibin .lss (.tmp 10) (.tmp 9))⟩])
       (.seq
        (.cond (.tmp 11)
         .skip
         (.exit 0))
        (.seq
         (.block 1
          (.seq
           (.region [⟨(some 12), none, .p (.idxSl 1 (.tmp 8) (.tmp 10))⟩,
              ⟨(some 13), none, .r1 (.tmp 12)⟩,
              ⟨(some 4), none, .p (.mv (.tmp 13))⟩])
           (.seq
            (.region [⟨(some 14), none, .p (.mv (.tmp 4))⟩,
               ⟨(some 15), none, .p (.nilck (.tmp 14))⟩,
               ⟨(some 16), none, .p (.fieldA 0 (.tmp 15))⟩,
               ⟨(some 17), none, .r1 (.tmp 16)⟩,
               ⟨(some 18), none, .p (.ibin .eql (.tmp 17) (.const (.int .i64 1)))⟩,
               ⟨(some 19), none, .p (.mv (.tmp 18))⟩,
               ⟨(some 20), (some (19, false)), .p (.mv (.tmp 4))⟩,
               ⟨(some 21), (some (19, false)), .p (.nilck (.tmp 20))⟩,
               ⟨(some 22), (some (19, false)), .p (.fieldA 2 (.tmp 21))⟩,
               ⟨(some 23), (some (19, false)), .r1 (.tmp 22)⟩,
               ⟨(some 24), none, .p (.pick (.tmp 19) (.const (.bool true)) (.tmp 23))⟩])
            (.cond (.tmp 24)
             (.seq
              (.region [⟨(some 2), none, .p (.mv (.const (.bool false)))⟩])
              .ret)
             .skip))))
         (.region [⟨(some 25), none, .p (.ibin .add (.tmp 10) (.const (.int .i64 1)))⟩,
            ⟨(some 10), none, .p (.mv (.tmp 25))⟩])))))))
   (.seq
    (.region [⟨(some 2), none, .p (.mv (.const (.bool true)))⟩])
    .ret))), [.tmp 2]⟩
theorem comp31 : compFunc Try.prog 31 = some a31 := by kernel_rfl
theorem callable31 : callable Try.prog 31 = true := by kernel_rfl

/-- treadle/flo.bits -/
def a33 : AFunc := ⟨1, (.seq
  (.region [⟨(some 2), none, .p (.mv (.const (.int .u64 0)))⟩])
  (.seq
   (.seq
    (.region [⟨(some 3), none, .p (.mv (.tmp 0))⟩,
       ⟨(some 4), none, .p (.mv (.tmp 0))⟩,
       ⟨(some 5), none, .w (.ext (.fcmp .neq) [(.tmp 3), (.tmp 4)])⟩])
    (.cond (.tmp 5)
     (.seq
      (.region [⟨(some 2), none, .p (.mv (.const (.int .u64 9221120237041090561)))⟩])
      .ret)
     .skip))
   (.seq
    (.region [⟨(some 6), none, .p (.mv (.tmp 0))⟩,
       ⟨(some 7), none, .w (.ext .fbits [(.tmp 6)])⟩,
       ⟨(some 2), none, .p (.mv (.tmp 7))⟩])
    .ret))), [.tmp 2]⟩
theorem comp33 : compFunc Try.prog 33 = some a33 := by kernel_rfl
theorem callable33 : callable Try.prog 33 = true := by kernel_rfl

/-- (*treadle/ideal.Ideal).Gs -/
def a35 : AFunc := ⟨1, (.seq
  (.region [⟨(some 2), none, .p (.mv (.const (.int .i64 0)))⟩])
  (.seq
   (.seq
    (.region [⟨(some 3), none, .p (.mv (.tmp 0))⟩,
       ⟨(some 4), none, .p (.eqp false (.tmp 3) (.const (.pointer none)))⟩])
    (.cond (.tmp 4)
     (.seq
      (.region [⟨(some 2), none, .p (.mv (.const (.int .i64 0)))⟩])
      .ret)
     .skip))
   (.seq
    (.region [⟨(some 5), none, .p (.mv (.tmp 0))⟩,
       ⟨(some 6), none, .p (.nilck (.tmp 5))⟩,
       ⟨(some 7), none, .p (.fieldA 5 (.tmp 6))⟩,
       ⟨(some 8), none, .r1 (.tmp 7)⟩,
       ⟨(some 9), none, .p (.len false (.tmp 8))⟩,
       ⟨(some 2), none, .p (.mv (.tmp 9))⟩])
    .ret))), [.tmp 2]⟩
theorem comp35 : compFunc Try.prog 35 = some a35 := by kernel_rfl
theorem callable35 : callable Try.prog 35 = true := by kernel_rfl

/-- treadle/verify.IsRef -/
def a37 : AFunc := ⟨1, (.seq
  (.region [⟨(some 2), none, .p (.mv (.const (.bool false)))⟩])
  (.seq
   (.region [⟨(some 3), none, .p (.mv (.tmp 0))⟩,
      ⟨(some 4), none, .p (.ibin .geq (.tmp 3) (.const (.int .i64 16)))⟩,
      ⟨(some 2), none, .p (.mv (.tmp 4))⟩])
   .ret)), [.tmp 2]⟩
theorem comp37 : compFunc Try.prog 37 = some a37 := by kernel_rfl
theorem callable37 : callable Try.prog 37 = true := by kernel_rfl

/-- (*treadle/ideal.Ideal).size -/
def a39 : AFunc := ⟨2, (.seq
  (.region [⟨(some 3), none, .w (.box 99 (.tmp 1))⟩,
     ⟨(some 4), none, .p (.mv (.const (.int .u64 0)))⟩])
  (.seq
   (.seq
    (.draw [⟨0, ⟨(some 5), none, .p (.fieldA 0 (.tmp 3))⟩, []⟩,
       ⟨1, ⟨(some 6), none, .r1 (.tmp 5)⟩, []⟩,
       ⟨2, ⟨(some 7), none, .p (.ibin .lss (.tmp 6) (.const (.int .i64 64)))⟩, []⟩,
       ⟨3, ⟨(some 8), none, .p (.mv (.tmp 7))⟩, []⟩,
       ⟨4, ⟨(some 9), (some (8, true)), .p (.mv (.tmp 0))⟩, []⟩,
       ⟨5, ⟨(some 10), (some (8, true)), .p (.nilck (.tmp 9))⟩, []⟩,
       ⟨6, ⟨(some 11), (some (8, true)), .p (.fieldA 0 (.tmp 10))⟩, []⟩,
       ⟨7, ⟨(some 12), (some (8, true)), .p (.fieldA 0 (.tmp 11))⟩, []⟩,
       ⟨8, ⟨(some 13), (some (8, true)), .r1 (.tmp 12)⟩, []⟩,
       ⟨9, ⟨(some 14), (some (8, true)), .p (.fieldA 0 (.tmp 3))⟩, []⟩,
       ⟨10, ⟨(some 15), (some (8, true)), .r1 (.tmp 14)⟩, []⟩,
       ⟨11, ⟨(some 16), (some (8, true)), .p (.ibin .sub (.tmp 15) (.const (.int .i64 16)))⟩, []⟩,
       ⟨12, ⟨(some 17), (some (8, true)), .p (.idxSl 2 (.tmp 13) (.tmp 16))⟩, []⟩,
       ⟨13, ⟨(some 18), (some (8, true)), .p (.fieldA 0 (.tmp 17))⟩, []⟩,
       ⟨14, ⟨(some 19), (some (8, true)), .r1 (.tmp 18)⟩, []⟩,
       ⟨15, ⟨(some 20), none, .p (.pick (.tmp 8) (.tmp 19) (.const (.bool false)))⟩, []⟩])
    (.cond (.tmp 20)
     (.seq
      (.region [⟨(some 21), none, .p (.fieldA 1 (.tmp 3))⟩,
         ⟨(some 22), none, .r1 (.tmp 21)⟩,
         ⟨(some 23), none, .p (.len false (.tmp 22))⟩,
         ⟨(some 24), none, .p (.ibin .add (.tmp 23) (.const (.int .i64 1)))⟩,
         ⟨(some 25), none, .p (.conv .u64 (.tmp 24))⟩,
         ⟨(some 4), none, .p (.mv (.tmp 25))⟩])
      .ret)
     .skip))
   (.seq
    (.region [⟨(some 26), none, .p (.fieldA 1 (.tmp 3))⟩,
       ⟨(some 27), none, .r1 (.tmp 26)⟩,
       ⟨(some 28), none, .p (.len false (.tmp 27))⟩,
       ⟨(some 29), none, .p (.conv .u64 (.tmp 28))⟩,
       ⟨(some 4), none, .p (.mv (.tmp 29))⟩])
    .ret))), [.tmp 4]⟩
theorem comp39 : compFunc Try.prog 39 = some a39 := by kernel_rfl
theorem callable39 : callable Try.prog 39 = true := by kernel_rfl

/-- (*treadle/verify.checker).types -/
def a41 : AFunc := ⟨1, (.seq
  (.region [⟨(some 2), none, .p (.mv (.const (.int .i64 0)))⟩,
     ⟨(some 3), none, .p (.mv (.const (.int .i64 0)))⟩])
  (.seq
   (.seq
    (.region [⟨(some 10), none, .p (.mv (.tmp 0))⟩,
       ⟨(some 11), none, .p (.nilck (.tmp 10))⟩,
       ⟨(some 12), none, .p (.fieldA 0 (.tmp 11))⟩,
       ⟨(some 13), none, .p (.fieldA 0 (.tmp 12))⟩,
       ⟨(some 14), none, .r1 (.tmp 13)⟩,
       ⟨(some 15), none, .p (.len false (.tmp 14))⟩,
       ⟨(some 16), none, .p (.ibin .gtr (.tmp 15) (.const (.int .i64 32)))⟩,
       ⟨(some 17), none, .p (.mv (.tmp 16))⟩,
       ⟨(some 18), (some (17, false)), .p (.mv (.tmp 0))⟩,
       ⟨(some 19), (some (17, false)), .p (.nilck (.tmp 18))⟩,
       ⟨(some 20), (some (17, false)), .p (.fieldA 0 (.tmp 19))⟩,
       ⟨(some 21), (some (17, false)), .p (.fieldA 1 (.tmp 20))⟩,
       ⟨(some 22), (some (17, false)), .r1 (.tmp 21)⟩,
       ⟨(some 23), (some (17, false)), .p (.len false (.tmp 22))⟩,
       ⟨(some 24), (some (17, false)), .p (.ibin .gtr (.tmp 23) (.const (.int .i64 32)))⟩,
       ⟨(some 25), none, .p (.pick (.tmp 17) (.const (.bool true)) (.tmp 24))⟩,
       ⟨(some 26), none, .p (.mv (.tmp 25))⟩,
       ⟨(some 27), (some (26, false)), .p (.mv (.tmp 0))⟩,
       ⟨(some 28), (some (26, false)), .p (.nilck (.tmp 27))⟩,
       ⟨(some 29), (some (26, false)), .p (.fieldA 0 (.tmp 28))⟩,
       ⟨(some 30), (some (26, false)), .p (.fieldA 2 (.tmp 29))⟩,
       ⟨(some 31), (some (26, false)), .r1 (.tmp 30)⟩,
       ⟨(some 32), (some (26, false)), .p (.len false (.tmp 31))⟩,
       ⟨(some 33), (some (26, false)), .p (.ibin .gtr (.tmp 32) (.const (.int .i64 32)))⟩,
       ⟨(some 34), none, .p (.pick (.tmp 26) (.const (.bool true)) (.tmp 33))⟩,
       ⟨(some 35), none, .p (.mv (.tmp 34))⟩,
       ⟨(some 36), (some (35, false)), .p (.mv (.tmp 0))⟩,
       ⟨(some 37), (some (35, false)), .p (.nilck (.tmp 36))⟩,
       ⟨(some 38), (some (35, false)), .p (.fieldA 0 (.tmp 37))⟩,
       ⟨(some 39), (some (35, false)), .p (.fieldA 2 (.tmp 38))⟩,
       ⟨(some 40), (some (35, false)), .r1 (.tmp 39)⟩,
       ⟨(some 41), (some (35, false)), .p (.len false (.tmp 40))⟩,
       ⟨(some 42), (some (35, false)), .p (.ibin .lss (.tmp 41) (.const (.int .i64 1)))⟩,
       ⟨(some 43), none, .p (.pick (.tmp 35) (.const (.bool true)) (.tmp 42))⟩])
    (.cond (.tmp 43)
     (.seq
      (.region [⟨(some 2), none, .p (.mv (.const (.int .i64 16)))⟩,
         ⟨(some 3), none, .p (.mv (.const (.int .i64 0)))⟩])
      .ret)
     .skip))
   (.seq
    (.seq
     (.region [⟨(some 44), none, .p (.mv (.tmp 0))⟩,
        ⟨(some 45), none, .p (.nilck (.tmp 44))⟩,
        ⟨(some 46), none, .p (.fieldA 0 (.tmp 45))⟩,
        ⟨(some 47), none, .p (.fieldA 0 (.tmp 46))⟩,
        ⟨(some 48), none, .r1 (.tmp 47)⟩,
        ⟨(some 49), none, .p (.len false (.tmp 48))⟩,
        ⟨(some 50), none, .p (.mv (.const (.int .i64 0)))⟩])
     (.block 0
      (.loop
       (.seq
        (.region [⟨(some 51), none, .p (.ibin .lss (.tmp 50) (.tmp 49))⟩])
        (.seq
         (.cond (.tmp 51)
          .skip
          (.exit 0))
         (.seq
          (.block 1
           (.seq
            (.region [⟨(some 52), none, .p (.mv (.tmp 50))⟩,
               ⟨(some 53), none, .p (.idxSl 2 (.tmp 48) (.tmp 50))⟩,
               ⟨(some 54), none, .rN 2 (.tmp 53)⟩,
               ⟨(some 5), none, .w (.alloc 61 [.bool false, .slice none 0 0])⟩,
               ⟨(some 4), none, .p (.mv (.tmp 52))⟩,
               ⟨none, none, .w (.stN 2 (.tmp 5) (.tmp 54))⟩])
            (.seq
             (.seq
              (.region [⟨(some 55), none, .p (.fieldA 1 (.tmp 5))⟩,
                 ⟨(some 56), none, .r1 (.tmp 55)⟩,
                 ⟨(some 57), none, .p (.len false (.tmp 56))⟩,
                 ⟨(some 58), none, .p (.ibin .gtr (.tmp 57) (.const (.int .i64 16)))⟩,
                 ⟨(some 59), none, .p (.mv (.tmp 58))⟩,
                 ⟨(some 60), (some (59, false)), .p (.fieldA 1 (.tmp 5))⟩,
                 ⟨(some 61), (some (59, false)), .r1 (.tmp 60)⟩,
                 ⟨(some 62), (some (59, false)), .p (.len false (.tmp 61))⟩,
                 ⟨(some 63), (some (59, false)), .p (.ibin .lss (.tmp 62) (.const (.int .i64 1)))⟩,
                 ⟨(some 64), none, .p (.pick (.tmp 59) (.const (.bool true)) (.tmp 63))⟩,
                 ⟨(some 65), none, .p (.mv (.tmp 64))⟩,
                 ⟨(some 66), (some (65, false)), .p (.fieldA 0 (.tmp 5))⟩,
                 ⟨(some 67), (some (65, false)), .r1 (.tmp 66)⟩,
                 ⟨(some 68), (some (65, false)), .p (.mv (.tmp 67))⟩,
                 ⟨(some 69), (some (68, true)), .p (.fieldA 1 (.tmp 5))⟩,
                 ⟨(some 70), (some (68, true)), .r1 (.tmp 69)⟩,
                 ⟨(some 71), (some (68, true)), .p (.len false (.tmp 70))⟩,
                 ⟨(some 72), (some (68, true)), .p (.ibin .neq (.tmp 71) (.const (.int .i64 1)))⟩,
                 ⟨(some 73), (some (65, false)), .p (.pick (.tmp 68) (.tmp 72) (.const (.bool false)))⟩,
                 ⟨(some 74), none, .p (.pick (.tmp 65) (.const (.bool true)) (.tmp 73))⟩])
              (.cond (.tmp 74)
               (.seq
                (.region [⟨(some 75), none, .p (.mv (.tmp 4))⟩,
                   ⟨(some 2), none, .p (.mv (.const (.int .i64 16)))⟩,
                   ⟨(some 3), none, .p (.mv (.tmp 75))⟩])
                .ret)
               .skip))
             (.seq
              (.region [⟨(some 76), none, .p (.fieldA 1 (.tmp 5))⟩,
                 ⟨(some 77), none, .r1 (.tmp 76)⟩,
                 ⟨(some 78), none, .p (.len false (.tmp 77))⟩,
                 ⟨(some 79), none, .p (.mv (.const (.int .i64 0)))⟩])
              (.block 2
               (.loop
                (.seq
                 (.region [⟨(some 80), none, .p (.ibin .lss (.tmp 79) (.tmp 78))⟩])
                 (.seq
                  (.cond (.tmp 80)
                   .skip
                   (.exit 2))
                  (.seq
                   (.block 3
                    (.seq
                     (.region [⟨(some 81), none, .p (.idxSl 1 (.tmp 77) (.tmp 79))⟩,
                        ⟨(some 82), none, .r1 (.tmp 81)⟩,
                        ⟨(some 7), none, .p (.mv (.tmp 82))⟩])
                     (.seq
                      (.region [⟨(some 83), none, .p (.mv (.tmp 0))⟩,
                         ⟨(some 84), none, .p (.mv (.tmp 7))⟩,
                         ⟨(some 85), none, .w (.call 59 [(.tmp 83), (.tmp 84)])⟩,
                         ⟨(some 86), none, .p (.not (.tmp 85))⟩])
                      (.cond (.tmp 86)
                       (.seq
                        (.region [⟨(some 87), none, .p (.mv (.tmp 4))⟩,
                           ⟨(some 2), none, .p (.mv (.const (.int .i64 10)))⟩,
                           ⟨(some 3), none, .p (.mv (.tmp 87))⟩])
                        .ret)
                       .skip))))
                   (.region [⟨(some 88), none, .p (.ibin .add (.tmp 79) (.const (.int .i64 1)))⟩,
                      ⟨(some 79), none, .p (.mv (.tmp 88))⟩]))))))))))
          (.region [⟨(some 89), none, .p (.ibin .add (.tmp 50) (.const (.int .i64 1)))⟩,
             ⟨(some 50), none, .p (.mv (.tmp 89))⟩])))))))
    (.seq
     (.seq
      (.region [⟨(some 90), none, .p (.mv (.tmp 0))⟩,
         ⟨(some 91), none, .p (.nilck (.tmp 90))⟩,
         ⟨(some 92), none, .p (.fieldA 0 (.tmp 91))⟩,
         ⟨(some 93), none, .p (.fieldA 1 (.tmp 92))⟩,
         ⟨(some 94), none, .r1 (.tmp 93)⟩,
         ⟨(some 95), none, .p (.len false (.tmp 94))⟩,
         ⟨(some 96), none, .p (.mv (.const (.int .i64 0)))⟩])
      (.block 4
       (.loop
        (.seq
         (.region [⟨(some 97), none, .p (.ibin .lss (.tmp 96) (.tmp 95))⟩])
         (.seq
          (.cond (.tmp 97)
           .skip
           (.exit 4))
          (.seq
           (.block 5
            (.seq
             (.region [⟨(some 98), none, .p (.mv (.tmp 96))⟩,
                ⟨(some 99), none, .p (.idxSl 1 (.tmp 94) (.tmp 96))⟩,
                ⟨(some 100), none, .r1 (.tmp 99)⟩,
                ⟨(some 8), none, .p (.mv (.tmp 98))⟩,
                ⟨(some 9), none, .p (.mv (.tmp 100))⟩])
             (.seq
              (.region [⟨(some 101), none, .p (.mv (.tmp 0))⟩,
                 ⟨(some 102), none, .p (.mv (.tmp 9))⟩,
                 ⟨(some 103), none, .w (.call 59 [(.tmp 101), (.tmp 102)])⟩,
                 ⟨(some 104), none, .p (.not (.tmp 103))⟩])
              (.cond (.tmp 104)
               (.seq
                (.region [⟨(some 105), none, .p (.mv (.tmp 8))⟩,
                   ⟨(some 2), none, .p (.mv (.const (.int .i64 15)))⟩,
                   ⟨(some 3), none, .p (.mv (.tmp 105))⟩])
                .ret)
               .skip))))
           (.region [⟨(some 106), none, .p (.ibin .add (.tmp 96) (.const (.int .i64 1)))⟩,
              ⟨(some 96), none, .p (.mv (.tmp 106))⟩])))))))
     (.seq
      (.region [⟨(some 2), none, .p (.mv (.const (.int .i64 0)))⟩,
         ⟨(some 3), none, .p (.mv (.const (.int .i64 0)))⟩])
      .ret))))), [.tmp 2, .tmp 3]⟩
theorem comp41 : compFunc Try.prog 41 = some a41 := by kernel_rfl
theorem callable41 : callable Try.prog 41 = true := by kernel_rfl

/-- (*treadle/verify.checker).one -/
def a43 : AFunc := ⟨1, (.seq
  (.region [⟨(some 2), none, .p (.mv (.const (.int .i64 0)))⟩])
  (.seq
   (.seq
    (.region [⟨(some 6), none, .p (.mv (.tmp 0))⟩,
       ⟨(some 7), none, .p (.nilck (.tmp 6))⟩,
       ⟨(some 8), none, .p (.fieldA 8 (.tmp 7))⟩,
       ⟨(some 9), none, .p (.fieldA 0 (.tmp 8))⟩,
       ⟨(some 10), none, .r1 (.tmp 9)⟩,
       ⟨(some 11), none, .p (.ibin .lss (.tmp 10) (.const (.int .i64 1)))⟩,
       ⟨(some 12), none, .p (.mv (.tmp 11))⟩,
       ⟨(some 13), (some (12, false)), .p (.mv (.tmp 0))⟩,
       ⟨(some 14), (some (12, false)), .p (.nilck (.tmp 13))⟩,
       ⟨(some 15), (some (12, false)), .p (.fieldA 8 (.tmp 14))⟩,
       ⟨(some 16), (some (12, false)), .p (.fieldA 0 (.tmp 15))⟩,
       ⟨(some 17), (some (12, false)), .r1 (.tmp 16)⟩,
       ⟨(some 18), (some (12, false)), .p (.ibin .gtr (.tmp 17) (.const (.int .i64 52)))⟩,
       ⟨(some 19), none, .p (.pick (.tmp 12) (.const (.bool true)) (.tmp 18))⟩])
    (.cond (.tmp 19)
     (.seq
      (.region [⟨(some 2), none, .p (.mv (.const (.int .i64 9)))⟩])
      .ret)
     .skip))
   (.seq
    (.seq
     (.region [⟨(some 20), none, .p (.mv (.tmp 0))⟩,
        ⟨(some 21), none, .p (.mv (.tmp 0))⟩,
        ⟨(some 22), none, .p (.nilck (.tmp 21))⟩,
        ⟨(some 23), none, .p (.fieldA 8 (.tmp 22))⟩,
        ⟨(some 24), none, .p (.fieldA 0 (.tmp 23))⟩,
        ⟨(some 25), none, .r1 (.tmp 24)⟩,
        ⟨(some 26), none, .w (.call 61 [(.tmp 25)])⟩,
        ⟨(some 27), none, .p (.extract 0 (.tmp 26))⟩,
        ⟨(some 28), none, .p (.extract 1 (.tmp 26))⟩,
        ⟨(some 29), none, .p (.extract 2 (.tmp 26))⟩,
        ⟨(some 30), none, .w (.call 60 [(.tmp 20), (.tmp 27), (.tmp 28), (.tmp 29)])⟩,
        ⟨(some 3), none, .p (.mv (.tmp 30))⟩])
     (.seq
      (.region [⟨(some 31), none, .p (.mv (.tmp 3))⟩,
         ⟨(some 32), none, .p (.ibin .neq (.tmp 31) (.const (.int .i64 0)))⟩])
      (.cond (.tmp 32)
       (.seq
        (.region [⟨(some 33), none, .p (.mv (.tmp 3))⟩,
           ⟨(some 2), none, .p (.mv (.tmp 33))⟩])
        .ret)
       .skip)))
    (.seq
     (.region [⟨(some 34), none, .p (.mv (.tmp 0))⟩,
        ⟨(some 35), none, .p (.nilck (.tmp 34))⟩,
        ⟨(some 36), none, .p (.fieldA 8 (.tmp 35))⟩,
        ⟨(some 37), none, .rN 6 (.tmp 36)⟩,
        ⟨(some 4), none, .w (.alloc 38 [.int .i64 0, .int .i64 0, .int .i64 0, .int .i64 0, .int .u64 0, .slice none 0 0])⟩,
        ⟨none, none, .w (.stN 6 (.tmp 4) (.tmp 37))⟩])
     (.seq
      (.seq
       (.region [⟨(some 38), none, .p (.fieldA 0 (.tmp 4))⟩,
          ⟨(some 39), none, .r1 (.tmp 38)⟩])
       (.block 0
        (.seq
         (.seq
          (.region [⟨(some 41), none, .p (.ibin .eql (.tmp 39) (.const (.int .i64 1)))⟩,
             ⟨(some 40), none, .p (.mv (.tmp 41))⟩])
          (.cond (.tmp 40)
           .skip
           (.region [⟨(some 42), none, .p (.ibin .eql (.tmp 39) (.const (.int .i64 48)))⟩,
              ⟨(some 40), none, .p (.mv (.tmp 42))⟩])))
         (.cond (.tmp 40)
          (.seq
           (.region [⟨(some 43), none, .p (.mv (.tmp 0))⟩,
              ⟨(some 44), none, .p (.fieldA 1 (.tmp 4))⟩,
              ⟨(some 45), none, .r1 (.tmp 44)⟩,
              ⟨(some 46), none, .w (.bslice 3 1 [.int .i64 0] [(0, 1, (.tmp 45))])⟩,
              ⟨(some 47), none, .w (.call 62 [(.tmp 43), (.func 63), (.tmp 46)])⟩,
              ⟨(some 2), none, .p (.mv (.tmp 47))⟩])
           .ret)
          (.seq
           (.region [⟨(some 49), none, .p (.ibin .eql (.tmp 39) (.const (.int .i64 2)))⟩,
              ⟨(some 48), none, .p (.mv (.tmp 49))⟩])
           (.cond (.tmp 48)
            (.seq
             (.region [⟨(some 50), none, .p (.mv (.tmp 0))⟩,
                ⟨(some 51), none, .p (.fieldA 1 (.tmp 4))⟩,
                ⟨(some 52), none, .r1 (.tmp 51)⟩,
                ⟨(some 53), none, .p (.fieldA 2 (.tmp 4))⟩,
                ⟨(some 54), none, .r1 (.tmp 53)⟩,
                ⟨(some 55), none, .w (.bslice 3 2 [.int .i64 0] [(0, 1, (.tmp 52)), (1, 1, (.tmp 54))])⟩,
                ⟨(some 56), none, .w (.call 62 [(.tmp 50), (.func 64), (.tmp 55)])⟩,
                ⟨(some 2), none, .p (.mv (.tmp 56))⟩])
             .ret)
            (.seq
             (.seq
              (.region [⟨(some 58), none, .p (.ibin .eql (.tmp 39) (.const (.int .i64 3)))⟩,
                 ⟨(some 57), none, .p (.mv (.tmp 58))⟩])
              (.cond (.tmp 57)
               .skip
               (.seq
                (.region [⟨(some 59), none, .p (.ibin .eql (.tmp 39) (.const (.int .i64 4)))⟩,
                   ⟨(some 57), none, .p (.mv (.tmp 59))⟩])
                (.cond (.tmp 57)
                 .skip
                 (.seq
                  (.region [⟨(some 60), none, .p (.ibin .eql (.tmp 39) (.const (.int .i64 5)))⟩,
                     ⟨(some 57), none, .p (.mv (.tmp 60))⟩])
                  (.cond (.tmp 57)
                   .skip
                   (.seq
                    (.region [⟨(some 61), none, .p (.ibin .eql (.tmp 39) (.const (.int .i64 6)))⟩,
                       ⟨(some 57), none, .p (.mv (.tmp 61))⟩])
                    (.cond (.tmp 57)
                     .skip
                     (.seq
                      (.region [⟨(some 62), none, .p (.ibin .eql (.tmp 39) (.const (.int .i64 7)))⟩,
                         ⟨(some 57), none, .p (.mv (.tmp 62))⟩])
                      (.cond (.tmp 57)
                       .skip
                       (.seq
                        (.region [⟨(some 63), none, .p (.ibin .eql (.tmp 39) (.const (.int .i64 8)))⟩,
                           ⟨(some 57), none, .p (.mv (.tmp 63))⟩])
                        (.cond (.tmp 57)
                         .skip
                         (.seq
                          (.region [⟨(some 64), none, .p (.ibin .eql (.tmp 39) (.const (.int .i64 9)))⟩,
                             ⟨(some 57), none, .p (.mv (.tmp 64))⟩])
                          (.cond (.tmp 57)
                           .skip
                           (.seq
                            (.region [⟨(some 65), none, .p (.ibin .eql (.tmp 39) (.const (.int .i64 10)))⟩,
                               ⟨(some 57), none, .p (.mv (.tmp 65))⟩])
                            (.cond (.tmp 57)
                             .skip
                             (.seq
                              (.region [⟨(some 66), none, .p (.ibin .eql (.tmp 39) (.const (.int .i64 11)))⟩,
                                 ⟨(some 57), none, .p (.mv (.tmp 66))⟩])
                              (.cond (.tmp 57)
                               .skip
                               (.seq
                                (.region [⟨(some 67), none, .p (.ibin .eql (.tmp 39) (.const (.int .i64 12)))⟩,
                                   ⟨(some 57), none, .p (.mv (.tmp 67))⟩])
                                (.cond (.tmp 57)
                                 .skip
                                 (.seq
                                  (.region [⟨(some 68), none, .p (.ibin .eql (.tmp 39) (.const (.int .i64 13)))⟩,
                                     ⟨(some 57), none, .p (.mv (.tmp 68))⟩])
                                  (.cond (.tmp 57)
                                   .skip
                                   (.region [⟨(some 69), none, .p (.ibin .eql (.tmp 39) (.const (.int .i64 14)))⟩,
                                      ⟨(some 57), none, .p (.mv (.tmp 69))⟩])))))))))))))))))))))))
             (.cond (.tmp 57)
              (.seq
               (.region [⟨(some 70), none, .p (.mv (.tmp 0))⟩,
                  ⟨(some 71), none, .p (.fieldA 1 (.tmp 4))⟩,
                  ⟨(some 72), none, .r1 (.tmp 71)⟩,
                  ⟨(some 73), none, .p (.fieldA 2 (.tmp 4))⟩,
                  ⟨(some 74), none, .r1 (.tmp 73)⟩,
                  ⟨(some 75), none, .p (.fieldA 3 (.tmp 4))⟩,
                  ⟨(some 76), none, .r1 (.tmp 75)⟩,
                  ⟨(some 77), none, .w (.bslice 3 6 [.int .i64 0] [(0, 1, (.tmp 72)), (1, 1, (.const (.int .i64 0))), (2, 1, (.tmp 74)), (3, 1, (.const (.int .i64 0))), (4, 1, (.tmp 76)), (5, 1, (.const (.int .i64 0)))])⟩,
                  ⟨(some 78), none, .w (.call 65 [(.tmp 70), (.tmp 77)])⟩,
                  ⟨(some 2), none, .p (.mv (.tmp 78))⟩])
               .ret)
              (.seq
               (.seq
                (.region [⟨(some 80), none, .p (.ibin .eql (.tmp 39) (.const (.int .i64 15)))⟩,
                   ⟨(some 79), none, .p (.mv (.tmp 80))⟩])
                (.cond (.tmp 79)
                 .skip
                 (.seq
                  (.region [⟨(some 81), none, .p (.ibin .eql (.tmp 39) (.const (.int .i64 16)))⟩,
                     ⟨(some 79), none, .p (.mv (.tmp 81))⟩])
                  (.cond (.tmp 79)
                   .skip
                   (.seq
                    (.region [⟨(some 82), none, .p (.ibin .eql (.tmp 39) (.const (.int .i64 17)))⟩,
                       ⟨(some 79), none, .p (.mv (.tmp 82))⟩])
                    (.cond (.tmp 79)
                     .skip
                     (.region [⟨(some 83), none, .p (.ibin .eql (.tmp 39) (.const (.int .i64 18)))⟩,
                        ⟨(some 79), none, .p (.mv (.tmp 83))⟩])))))))
               (.cond (.tmp 79)
                (.seq
                 (.region [⟨(some 84), none, .p (.mv (.tmp 0))⟩,
                    ⟨(some 85), none, .p (.fieldA 1 (.tmp 4))⟩,
                    ⟨(some 86), none, .r1 (.tmp 85)⟩,
                    ⟨(some 87), none, .p (.fieldA 2 (.tmp 4))⟩,
                    ⟨(some 88), none, .r1 (.tmp 87)⟩,
                    ⟨(some 89), none, .p (.fieldA 3 (.tmp 4))⟩,
                    ⟨(some 90), none, .r1 (.tmp 89)⟩,
                    ⟨(some 91), none, .w (.bslice 3 6 [.int .i64 0] [(0, 1, (.tmp 86)), (1, 1, (.const (.int .i64 1))), (2, 1, (.tmp 88)), (3, 1, (.const (.int .i64 1))), (4, 1, (.tmp 90)), (5, 1, (.const (.int .i64 1)))])⟩,
                    ⟨(some 92), none, .w (.call 65 [(.tmp 84), (.tmp 91)])⟩,
                    ⟨(some 2), none, .p (.mv (.tmp 92))⟩])
                 .ret)
                (.seq
                 (.seq
                  (.region [⟨(some 94), none, .p (.ibin .eql (.tmp 39) (.const (.int .i64 19)))⟩,
                     ⟨(some 93), none, .p (.mv (.tmp 94))⟩])
                  (.cond (.tmp 93)
                   .skip
                   (.region [⟨(some 95), none, .p (.ibin .eql (.tmp 39) (.const (.int .i64 20)))⟩,
                      ⟨(some 93), none, .p (.mv (.tmp 95))⟩])))
                 (.cond (.tmp 93)
                  (.seq
                   (.region [⟨(some 96), none, .p (.mv (.tmp 0))⟩,
                      ⟨(some 97), none, .p (.fieldA 1 (.tmp 4))⟩,
                      ⟨(some 98), none, .r1 (.tmp 97)⟩,
                      ⟨(some 99), none, .p (.fieldA 2 (.tmp 4))⟩,
                      ⟨(some 100), none, .r1 (.tmp 99)⟩,
                      ⟨(some 101), none, .p (.fieldA 3 (.tmp 4))⟩,
                      ⟨(some 102), none, .r1 (.tmp 101)⟩,
                      ⟨(some 103), none, .w (.bslice 3 6 [.int .i64 0] [(0, 1, (.tmp 98)), (1, 1, (.const (.int .i64 0))), (2, 1, (.tmp 100)), (3, 1, (.const (.int .i64 1))), (4, 1, (.tmp 102)), (5, 1, (.const (.int .i64 1)))])⟩,
                      ⟨(some 104), none, .w (.call 65 [(.tmp 96), (.tmp 103)])⟩,
                      ⟨(some 2), none, .p (.mv (.tmp 104))⟩])
                   .ret)
                  (.seq
                   (.region [⟨(some 106), none, .p (.ibin .eql (.tmp 39) (.const (.int .i64 21)))⟩,
                      ⟨(some 105), none, .p (.mv (.tmp 106))⟩])
                   (.cond (.tmp 105)
                    (.seq
                     (.region [⟨(some 107), none, .p (.mv (.tmp 0))⟩,
                        ⟨(some 108), none, .p (.fieldA 1 (.tmp 4))⟩,
                        ⟨(some 109), none, .r1 (.tmp 108)⟩,
                        ⟨(some 110), none, .p (.fieldA 2 (.tmp 4))⟩,
                        ⟨(some 111), none, .r1 (.tmp 110)⟩,
                        ⟨(some 112), none, .w (.bslice 3 4 [.int .i64 0] [(0, 1, (.tmp 109)), (1, 1, (.const (.int .i64 1))), (2, 1, (.tmp 111)), (3, 1, (.const (.int .i64 0)))])⟩,
                        ⟨(some 113), none, .w (.call 65 [(.tmp 107), (.tmp 112)])⟩,
                        ⟨(some 2), none, .p (.mv (.tmp 113))⟩])
                     .ret)
                    (.seq
                     (.seq
                      (.region [⟨(some 115), none, .p (.ibin .eql (.tmp 39) (.const (.int .i64 22)))⟩,
                         ⟨(some 114), none, .p (.mv (.tmp 115))⟩])
                      (.cond (.tmp 114)
                       .skip
                       (.region [⟨(some 116), none, .p (.ibin .eql (.tmp 39) (.const (.int .i64 40)))⟩,
                          ⟨(some 114), none, .p (.mv (.tmp 116))⟩])))
                     (.cond (.tmp 114)
                      (.seq
                       (.seq
                        (.region [⟨(some 117), none, .p (.fieldA 0 (.tmp 4))⟩,
                           ⟨(some 118), none, .r1 (.tmp 117)⟩,
                           ⟨(some 119), none, .p (.ibin .eql (.tmp 118) (.const (.int .i64 40)))⟩])
                        (.cond (.tmp 119)
                         (.seq
                          (.region [⟨(some 120), none, .p (.mv (.tmp 0))⟩,
                             ⟨(some 121), none, .p (.fieldA 1 (.tmp 4))⟩,
                             ⟨(some 122), none, .r1 (.tmp 121)⟩,
                             ⟨(some 123), none, .p (.fieldA 2 (.tmp 4))⟩,
                             ⟨(some 124), none, .r1 (.tmp 123)⟩,
                             ⟨(some 125), none, .w (.bslice 3 4 [.int .i64 0] [(0, 1, (.tmp 122)), (1, 1, (.const (.int .i64 0))), (2, 1, (.tmp 124)), (3, 1, (.const (.int .i64 0)))])⟩,
                             ⟨(some 126), none, .w (.call 65 [(.tmp 120), (.tmp 125)])⟩,
                             ⟨(some 2), none, .p (.mv (.tmp 126))⟩])
                          .ret)
                         .skip))
                       (.seq
                        (.region [⟨(some 127), none, .p (.mv (.tmp 0))⟩,
                           ⟨(some 128), none, .p (.fieldA 1 (.tmp 4))⟩,
                           ⟨(some 129), none, .r1 (.tmp 128)⟩,
                           ⟨(some 130), none, .p (.fieldA 2 (.tmp 4))⟩,
                           ⟨(some 131), none, .r1 (.tmp 130)⟩,
                           ⟨(some 132), none, .w (.bslice 3 4 [.int .i64 0] [(0, 1, (.tmp 129)), (1, 1, (.const (.int .i64 0))), (2, 1, (.tmp 131)), (3, 1, (.const (.int .i64 1)))])⟩,
                           ⟨(some 133), none, .w (.call 65 [(.tmp 127), (.tmp 132)])⟩,
                           ⟨(some 2), none, .p (.mv (.tmp 133))⟩])
                        .ret))
                      (.seq
                       (.region [⟨(some 135), none, .p (.ibin .eql (.tmp 39) (.const (.int .i64 23)))⟩,
                          ⟨(some 134), none, .p (.mv (.tmp 135))⟩])
                       (.cond (.tmp 134)
                        (.seq
                         (.seq
                          (.region [⟨(some 136), none, .p (.mv (.tmp 0))⟩,
                             ⟨(some 137), none, .p (.fieldA 1 (.tmp 4))⟩,
                             ⟨(some 138), none, .r1 (.tmp 137)⟩,
                             ⟨(some 139), none, .w (.bslice 3 2 [.int .i64 0] [(0, 1, (.tmp 138)), (1, 1, (.const (.int .i64 0)))])⟩,
                             ⟨(some 140), none, .w (.call 65 [(.tmp 136), (.tmp 139)])⟩,
                             ⟨(some 5), none, .p (.mv (.tmp 140))⟩])
                          (.seq
                           (.region [⟨(some 141), none, .p (.mv (.tmp 5))⟩,
                              ⟨(some 142), none, .p (.ibin .neq (.tmp 141) (.const (.int .i64 0)))⟩])
                           (.cond (.tmp 142)
                            (.seq
                             (.region [⟨(some 143), none, .p (.mv (.tmp 5))⟩,
                                ⟨(some 2), none, .p (.mv (.tmp 143))⟩])
                             .ret)
                            .skip)))
                         (.seq
                          (.region [⟨(some 144), none, .p (.mv (.tmp 0))⟩,
                             ⟨(some 145), none, .p (.fieldA 2 (.tmp 4))⟩,
                             ⟨(some 146), none, .r1 (.tmp 145)⟩,
                             ⟨(some 147), none, .p (.fieldA 3 (.tmp 4))⟩,
                             ⟨(some 148), none, .r1 (.tmp 147)⟩,
                             ⟨(some 149), none, .w (.bslice 3 2 [.int .i64 0] [(0, 1, (.tmp 146)), (1, 1, (.tmp 148))])⟩,
                             ⟨(some 150), none, .w (.call 62 [(.tmp 144), (.func 37), (.tmp 149)])⟩,
                             ⟨(some 2), none, .p (.mv (.tmp 150))⟩])
                          .ret))
                        (.seq
                         (.seq
                          (.region [⟨(some 152), none, .p (.ibin .eql (.tmp 39) (.const (.int .i64 24)))⟩,
                             ⟨(some 151), none, .p (.mv (.tmp 152))⟩])
                          (.cond (.tmp 151)
                           .skip
                           (.region [⟨(some 153), none, .p (.ibin .eql (.tmp 39) (.const (.int .i64 25)))⟩,
                              ⟨(some 151), none, .p (.mv (.tmp 153))⟩])))
                         (.cond (.tmp 151)
                          (.seq
                           (.region [⟨(some 154), none, .p (.mv (.tmp 0))⟩,
                              ⟨(some 155), none, .rN 6 (.tmp 4)⟩,
                              ⟨(some 156), none, .w (.call 66 [(.tmp 154), (.tmp 155)])⟩,
                              ⟨(some 2), none, .p (.mv (.tmp 156))⟩])
                           .ret)
                          (.seq
                           (.seq
                            (.region [⟨(some 158), none, .p (.ibin .eql (.tmp 39) (.const (.int .i64 39)))⟩,
                               ⟨(some 157), none, .p (.mv (.tmp 158))⟩])
                            (.cond (.tmp 157)
                             .skip
                             (.seq
                              (.region [⟨(some 159), none, .p (.ibin .eql (.tmp 39) (.const (.int .i64 46)))⟩,
                                 ⟨(some 157), none, .p (.mv (.tmp 159))⟩])
                              (.cond (.tmp 157)
                               .skip
                               (.region [⟨(some 160), none, .p (.ibin .eql (.tmp 39) (.const (.int .i64 52)))⟩,
                                  ⟨(some 157), none, .p (.mv (.tmp 160))⟩])))))
                           (.cond (.tmp 157)
                            (.seq
                             (.region [⟨(some 161), none, .p (.mv (.tmp 0))⟩,
                                ⟨(some 162), none, .p (.fieldA 1 (.tmp 4))⟩,
                                ⟨(some 163), none, .r1 (.tmp 162)⟩,
                                ⟨(some 164), none, .w (.bslice 3 2 [.int .i64 0] [(0, 1, (.tmp 163)), (1, 1, (.const (.int .i64 0)))])⟩,
                                ⟨(some 165), none, .w (.call 65 [(.tmp 161), (.tmp 164)])⟩,
                                ⟨(some 2), none, .p (.mv (.tmp 165))⟩])
                             .ret)
                            (.seq
                             (.region [⟨(some 167), none, .p (.ibin .eql (.tmp 39) (.const (.int .i64 47)))⟩,
                                ⟨(some 166), none, .p (.mv (.tmp 167))⟩])
                             (.cond (.tmp 166)
                              (.seq
                               (.region [⟨(some 2), none, .p (.mv (.const (.int .i64 0)))⟩])
                               .ret)
                              (.seq
                               (.seq
                                (.region [⟨(some 169), none, .p (.ibin .eql (.tmp 39) (.const (.int .i64 49)))⟩,
                                   ⟨(some 168), none, .p (.mv (.tmp 169))⟩])
                                (.cond (.tmp 168)
                                 .skip
                                 (.region [⟨(some 170), none, .p (.ibin .eql (.tmp 39) (.const (.int .i64 51)))⟩,
                                    ⟨(some 168), none, .p (.mv (.tmp 170))⟩])))
                               (.cond (.tmp 168)
                                (.seq
                                 (.region [⟨(some 171), none, .p (.mv (.tmp 0))⟩,
                                    ⟨(some 172), none, .p (.fieldA 1 (.tmp 4))⟩,
                                    ⟨(some 173), none, .r1 (.tmp 172)⟩,
                                    ⟨(some 174), none, .p (.fieldA 2 (.tmp 4))⟩,
                                    ⟨(some 175), none, .r1 (.tmp 174)⟩,
                                    ⟨(some 176), none, .w (.bslice 3 4 [.int .i64 0] [(0, 1, (.tmp 173)), (1, 1, (.const (.int .i64 2))), (2, 1, (.tmp 175)), (3, 1, (.const (.int .i64 0)))])⟩,
                                    ⟨(some 177), none, .w (.call 65 [(.tmp 171), (.tmp 176)])⟩,
                                    ⟨(some 2), none, .p (.mv (.tmp 177))⟩])
                                 .ret)
                                (.seq
                                 (.region [⟨(some 179), none, .p (.ibin .eql (.tmp 39) (.const (.int .i64 50)))⟩,
                                    ⟨(some 178), none, .p (.mv (.tmp 179))⟩])
                                 (.cond (.tmp 178)
                                  (.seq
                                   (.region [⟨(some 180), none, .p (.mv (.tmp 0))⟩,
                                      ⟨(some 181), none, .p (.fieldA 1 (.tmp 4))⟩,
                                      ⟨(some 182), none, .r1 (.tmp 181)⟩,
                                      ⟨(some 183), none, .p (.fieldA 2 (.tmp 4))⟩,
                                      ⟨(some 184), none, .r1 (.tmp 183)⟩,
                                      ⟨(some 185), none, .w (.bslice 3 4 [.int .i64 0] [(0, 1, (.tmp 182)), (1, 1, (.const (.int .i64 0))), (2, 1, (.tmp 184)), (3, 1, (.const (.int .i64 2)))])⟩,
                                      ⟨(some 186), none, .w (.call 65 [(.tmp 180), (.tmp 185)])⟩,
                                      ⟨(some 2), none, .p (.mv (.tmp 186))⟩])
                                   .ret)
                                  (.seq
                                   (.seq
                                    (.region [⟨(some 188), none, .p (.ibin .eql (.tmp 39) (.const (.int .i64 26)))⟩,
                                       ⟨(some 187), none, .p (.mv (.tmp 188))⟩])
                                    (.cond (.tmp 187)
                                     .skip
                                     (.seq
                                      (.region [⟨(some 189), none, .p (.ibin .eql (.tmp 39) (.const (.int .i64 27)))⟩,
                                         ⟨(some 187), none, .p (.mv (.tmp 189))⟩])
                                      (.cond (.tmp 187)
                                       .skip
                                       (.seq
                                        (.region [⟨(some 190), none, .p (.ibin .eql (.tmp 39) (.const (.int .i64 28)))⟩,
                                           ⟨(some 187), none, .p (.mv (.tmp 190))⟩])
                                        (.cond (.tmp 187)
                                         .skip
                                         (.seq
                                          (.region [⟨(some 191), none, .p (.ibin .eql (.tmp 39) (.const (.int .i64 29)))⟩,
                                             ⟨(some 187), none, .p (.mv (.tmp 191))⟩])
                                          (.cond (.tmp 187)
                                           .skip
                                           (.seq
                                            (.region [⟨(some 192), none, .p (.ibin .eql (.tmp 39) (.const (.int .i64 30)))⟩,
                                               ⟨(some 187), none, .p (.mv (.tmp 192))⟩])
                                            (.cond (.tmp 187)
                                             .skip
                                             (.seq
                                              (.region [⟨(some 193), none, .p (.ibin .eql (.tmp 39) (.const (.int .i64 31)))⟩,
                                                 ⟨(some 187), none, .p (.mv (.tmp 193))⟩])
                                              (.cond (.tmp 187)
                                               .skip
                                               (.seq
                                                (.region [⟨(some 194), none, .p (.ibin .eql (.tmp 39) (.const (.int .i64 32)))⟩,
                                                   ⟨(some 187), none, .p (.mv (.tmp 194))⟩])
                                                (.cond (.tmp 187)
                                                 .skip
                                                 (.seq
                                                  (.region [⟨(some 195), none, .p (.ibin .eql (.tmp 39) (.const (.int .i64 33)))⟩,
                                                     ⟨(some 187), none, .p (.mv (.tmp 195))⟩])
                                                  (.cond (.tmp 187)
                                                   .skip
                                                   (.region [⟨(some 196), none, .p (.ibin .eql (.tmp 39) (.const (.int .i64 34)))⟩,
                                                      ⟨(some 187), none, .p (.mv (.tmp 196))⟩])))))))))))))))))
                                   (.cond (.tmp 187)
                                    (.seq
                                     (.region [⟨(some 197), none, .p (.mv (.tmp 0))⟩,
                                        ⟨(some 198), none, .rN 6 (.tmp 4)⟩,
                                        ⟨(some 199), none, .w (.call 67 [(.tmp 197), (.tmp 198)])⟩,
                                        ⟨(some 2), none, .p (.mv (.tmp 199))⟩])
                                     .ret)
                                    (.seq
                                     (.seq
                                      (.region [⟨(some 201), none, .p (.ibin .eql (.tmp 39) (.const (.int .i64 35)))⟩,
                                         ⟨(some 200), none, .p (.mv (.tmp 201))⟩])
                                      (.cond (.tmp 200)
                                       .skip
                                       (.seq
                                        (.region [⟨(some 202), none, .p (.ibin .eql (.tmp 39) (.const (.int .i64 36)))⟩,
                                           ⟨(some 200), none, .p (.mv (.tmp 202))⟩])
                                        (.cond (.tmp 200)
                                         .skip
                                         (.seq
                                          (.region [⟨(some 203), none, .p (.ibin .eql (.tmp 39) (.const (.int .i64 37)))⟩,
                                             ⟨(some 200), none, .p (.mv (.tmp 203))⟩])
                                          (.cond (.tmp 200)
                                           .skip
                                           (.region [⟨(some 204), none, .p (.ibin .eql (.tmp 39) (.const (.int .i64 38)))⟩,
                                              ⟨(some 200), none, .p (.mv (.tmp 204))⟩])))))))
                                     (.cond (.tmp 200)
                                      (.seq
                                       (.region [⟨(some 205), none, .p (.mv (.tmp 0))⟩,
                                          ⟨(some 206), none, .rN 6 (.tmp 4)⟩,
                                          ⟨(some 207), none, .w (.call 68 [(.tmp 205), (.tmp 206)])⟩,
                                          ⟨(some 2), none, .p (.mv (.tmp 207))⟩])
                                       .ret)
                                      .skip))))))))))))))))))))))))))))))))
      (.seq
       (.region [⟨(some 208), none, .p (.mv (.tmp 0))⟩,
          ⟨(some 209), none, .rN 6 (.tmp 4)⟩,
          ⟨(some 210), none, .w (.call 69 [(.tmp 208), (.tmp 209)])⟩,
          ⟨(some 2), none, .p (.mv (.tmp 210))⟩])
       .ret)))))), [.tmp 2]⟩
theorem comp43 : compFunc Try.prog 43 = some a43 := by kernel_rfl
theorem callable43 : callable Try.prog 43 = true := by kernel_rfl

/-- (*treadle/ideal.Ideal).frame -/
def a45 : AFunc := ⟨3, (.seq
  (.region [⟨(some 6), none, .p (.mv (.const (.pointer none)))⟩])
  (.seq
   (.region [⟨(some 8), none, .p (.mv (.tmp 1))⟩,
      ⟨(some 9), none, .p (.mv (.tmp 0))⟩,
      ⟨(some 10), none, .p (.nilck (.tmp 9))⟩,
      ⟨(some 11), none, .p (.fieldA 0 (.tmp 10))⟩,
      ⟨(some 12), none, .p (.fieldA 2 (.tmp 11))⟩,
      ⟨(some 13), none, .r1 (.tmp 12)⟩,
      ⟨(some 14), none, .p (.mv (.tmp 1))⟩,
      ⟨(some 15), none, .p (.idxSl 4 (.tmp 13) (.tmp 14))⟩,
      ⟨(some 16), none, .p (.fieldA 1 (.tmp 15))⟩,
      ⟨(some 17), none, .r1 (.tmp 16)⟩,
      ⟨(some 18), none, .p (.len false (.tmp 17))⟩,
      ⟨(some 19), none, .w (.mksl 35 8 [.int .u64 0] (.tmp 18) (.tmp 18))⟩,
      ⟨(some 20), none, .p (.build [.int .i64 0, .int .i64 0, .int .u64 0, .slice none 0 0, .slice none 0 0, .slice none 0 0, .int .i64 0, .bool false, .slice none 0 0] [(0, 1, (.tmp 8)), (3, 1, (.tmp 19))])⟩,
      ⟨(some 21), none, .w (.box 85 (.tmp 20))⟩,
      ⟨(some 7), none, .p (.mv (.tmp 21))⟩])
   (.seq
    (.region [⟨(some 22), none, .p (.mv (.tmp 7))⟩,
       ⟨(some 23), none, .p (.nilck (.tmp 22))⟩,
       ⟨(some 24), none, .p (.fieldA 3 (.tmp 23))⟩,
       ⟨(some 25), none, .r1 (.tmp 24)⟩,
       ⟨(some 26), none, .p (.mv (.tmp 2))⟩,
       ⟨(some 27), none, .w (.cpy 1 (.tmp 25) (.tmp 26))⟩])
    (.seq
     (.region [⟨(some 28), none, .p (.mv (.tmp 7))⟩,
        ⟨(some 6), none, .p (.mv (.tmp 28))⟩])
     .ret)))), [.tmp 6]⟩
theorem comp45 : compFunc Try.prog 45 = some a45 := by kernel_rfl
theorem callable45 : callable Try.prog 45 = true := by kernel_rfl

/-- treadle/flo.Canon -/
def a47 : AFunc := ⟨1, (.seq
  (.region [⟨(some 2), none, .p (.mv (.const (.int .u64 0)))⟩])
  (.seq
   (.region [⟨(some 3), none, .p (.mv (.tmp 0))⟩,
      ⟨(some 4), none, .w (.call 34 [(.tmp 3)])⟩,
      ⟨(some 5), none, .w (.call 33 [(.tmp 4)])⟩,
      ⟨(some 2), none, .p (.mv (.tmp 5))⟩])
   .ret)), [.tmp 2]⟩
theorem comp47 : compFunc Try.prog 47 = some a47 := by kernel_rfl
theorem callable47 : callable Try.prog 47 = true := by kernel_rfl

/-- treadle/ideal.float -/
def a49 : AFunc := ⟨3, (.seq
  (.region [⟨(some 6), none, .p (.mv (.const (.int .u64 0)))⟩])
  (.seq
   (.seq
    (.region [⟨(some 7), none, .p (.mv (.tmp 0))⟩])
    (.block 0
     (.seq
      (.region [⟨(some 9), none, .p (.ibin .eql (.tmp 7) (.const (.int .i64 15)))⟩,
         ⟨(some 8), none, .p (.mv (.tmp 9))⟩])
      (.cond (.tmp 8)
       (.seq
        (.region [⟨(some 10), none, .p (.mv (.tmp 1))⟩,
           ⟨(some 11), none, .p (.mv (.tmp 2))⟩,
           ⟨(some 12), none, .w (.call 14 [(.tmp 10), (.tmp 11)])⟩,
           ⟨(some 6), none, .p (.mv (.tmp 12))⟩])
        .ret)
       (.seq
        (.region [⟨(some 14), none, .p (.ibin .eql (.tmp 7) (.const (.int .i64 16)))⟩,
           ⟨(some 13), none, .p (.mv (.tmp 14))⟩])
        (.cond (.tmp 13)
         (.seq
          (.region [⟨(some 15), none, .p (.mv (.tmp 1))⟩,
             ⟨(some 16), none, .p (.mv (.tmp 2))⟩,
             ⟨(some 17), none, .w (.call 15 [(.tmp 15), (.tmp 16)])⟩,
             ⟨(some 6), none, .p (.mv (.tmp 17))⟩])
          .ret)
         (.seq
          (.region [⟨(some 19), none, .p (.ibin .eql (.tmp 7) (.const (.int .i64 17)))⟩,
             ⟨(some 18), none, .p (.mv (.tmp 19))⟩])
          (.cond (.tmp 18)
           (.seq
            (.region [⟨(some 20), none, .p (.mv (.tmp 1))⟩,
               ⟨(some 21), none, .p (.mv (.tmp 2))⟩,
               ⟨(some 22), none, .w (.call 16 [(.tmp 20), (.tmp 21)])⟩,
               ⟨(some 6), none, .p (.mv (.tmp 22))⟩])
            .ret)
           (.seq
            (.region [⟨(some 24), none, .p (.ibin .eql (.tmp 7) (.const (.int .i64 18)))⟩,
               ⟨(some 23), none, .p (.mv (.tmp 24))⟩])
            (.cond (.tmp 23)
             (.seq
              (.region [⟨(some 25), none, .p (.mv (.tmp 1))⟩,
                 ⟨(some 26), none, .p (.mv (.tmp 2))⟩,
                 ⟨(some 27), none, .w (.call 17 [(.tmp 25), (.tmp 26)])⟩,
                 ⟨(some 6), none, .p (.mv (.tmp 27))⟩])
              .ret)
             (.seq
              (.region [⟨(some 29), none, .p (.ibin .eql (.tmp 7) (.const (.int .i64 19)))⟩,
                 ⟨(some 28), none, .p (.mv (.tmp 29))⟩])
              (.cond (.tmp 28)
               (.seq
                (.region [⟨(some 30), none, .p (.mv (.tmp 1))⟩,
                   ⟨(some 31), none, .p (.mv (.tmp 2))⟩,
                   ⟨(some 32), none, .w (.call 72 [(.tmp 30), (.tmp 31)])⟩,
                   ⟨(some 33), none, .w (.call 71 [(.tmp 32)])⟩,
                   ⟨(some 6), none, .p (.mv (.tmp 33))⟩])
                .ret)
               .skip))))))))))))
   (.seq
    (.region [⟨(some 34), none, .p (.mv (.tmp 1))⟩,
       ⟨(some 35), none, .p (.mv (.tmp 2))⟩,
       ⟨(some 36), none, .w (.call 73 [(.tmp 34), (.tmp 35)])⟩,
       ⟨(some 37), none, .w (.call 71 [(.tmp 36)])⟩,
       ⟨(some 6), none, .p (.mv (.tmp 37))⟩])
    .ret))), [.tmp 6]⟩
theorem comp49 : compFunc Try.prog 49 = some a49 := by kernel_rfl
theorem callable49 : callable Try.prog 49 = true := by kernel_rfl

/-- (*treadle/ideal.Ideal).sleep -/
def a51 : AFunc := ⟨3, (.seq
  (.seq
   (.region [⟨(some 6), none, .p (.mv (.tmp 2))⟩,
      ⟨(some 7), none, .p (.ibin .leq (.tmp 6) (.const (.int .i64 0)))⟩,
      ⟨(some 8), none, .p (.mv (.tmp 7))⟩,
      ⟨(some 9), (some (8, false)), .p (.mv (.tmp 0))⟩,
      ⟨(some 10), (some (8, false)), .p (.nilck (.tmp 9))⟩,
      ⟨(some 11), (some (8, false)), .p (.fieldA 6 (.tmp 10))⟩,
      ⟨(some 12), (some (8, false)), .r1 (.tmp 11)⟩,
      ⟨(some 13), (some (8, false)), .p (.ibin .eql (.tmp 12) (.const (.int .u64 1099511627776)))⟩,
      ⟨(some 14), none, .p (.pick (.tmp 8) (.const (.bool true)) (.tmp 13))⟩])
   (.cond (.tmp 14)
    .ret
    .skip))
  (.seq
   (.region [⟨(some 15), none, .p (.mv (.tmp 1))⟩,
      ⟨(some 16), none, .p (.mv (.tmp 0))⟩,
      ⟨(some 17), none, .p (.nilck (.tmp 16))⟩,
      ⟨(some 18), none, .p (.fieldA 6 (.tmp 17))⟩,
      ⟨(some 19), none, .r1 (.tmp 18)⟩,
      ⟨(some 20), none, .p (.mv (.tmp 2))⟩,
      ⟨(some 21), none, .p (.conv .u64 (.tmp 20))⟩,
      ⟨(some 22), none, .p (.min2 (.tmp 21) (.const (.int .u64 1099511627776)))⟩,
      ⟨(some 23), none, .p (.ibin .add (.tmp 19) (.tmp 22))⟩,
      ⟨(some 24), none, .p (.min2 (.tmp 23) (.const (.int .u64 1099511627776)))⟩,
      ⟨(some 25), none, .p (.nilck (.tmp 15))⟩,
      ⟨(some 26), none, .p (.fieldA 1 (.tmp 25))⟩,
      ⟨none, none, .w (.st1 (.tmp 26) (.tmp 24))⟩])
   (.region [⟨(some 27), none, .p (.mv (.tmp 1))⟩,
      ⟨(some 28), none, .p (.mv (.tmp 1))⟩,
      ⟨(some 29), none, .p (.nilck (.tmp 27))⟩,
      ⟨(some 30), none, .p (.fieldA 2 (.tmp 29))⟩,
      ⟨none, none, .w (.st1 (.tmp 30) (.const (.bool true)))⟩,
      ⟨(some 31), none, .p (.nilck (.tmp 28))⟩,
      ⟨(some 32), none, .p (.fieldA 0 (.tmp 31))⟩,
      ⟨none, none, .w (.st1 (.tmp 32) (.const (.int .i64 2)))⟩]))), []⟩
theorem comp51 : compFunc Try.prog 51 = some a51 := by kernel_rfl
theorem callable51 : callable Try.prog 51 = true := by kernel_rfl

/-- (*treadle/ideal.Ideal).memory -/
def a53 : AFunc := ⟨3, (.seq
  (.region [⟨(some 5), none, .w (.box 38 (.tmp 2))⟩])
  (.seq
   (.seq
    (.region [⟨(some 10), none, .p (.fieldA 0 (.tmp 5))⟩,
       ⟨(some 11), none, .r1 (.tmp 10)⟩])
    (.block 0
     (.seq
      (.region [⟨(some 13), none, .p (.ibin .eql (.tmp 11) (.const (.int .i64 33)))⟩,
         ⟨(some 12), none, .p (.mv (.tmp 13))⟩])
      (.cond (.tmp 12)
       (.seq
        (.draw [⟨0, ⟨(some 14), none, .p (.mv (.tmp 1))⟩, []⟩,
           ⟨1, ⟨(some 15), none, .p (.fieldA 1 (.tmp 5))⟩, []⟩,
           ⟨2, ⟨(some 16), none, .r1 (.tmp 15)⟩, []⟩,
           ⟨3, ⟨(some 17), none, .p (.mv (.tmp 0))⟩, []⟩,
           ⟨4, ⟨(some 18), none, .p (.nilck (.tmp 17))⟩, []⟩,
           ⟨5, ⟨(some 19), none, .p (.fieldA 3 (.tmp 18))⟩, []⟩,
           ⟨6, ⟨(some 20), none, .r1 (.tmp 19)⟩, []⟩,
           ⟨7, ⟨(some 21), none, .p (.fieldA 2 (.tmp 5))⟩, []⟩,
           ⟨8, ⟨(some 22), none, .r1 (.tmp 21)⟩, []⟩,
           ⟨9, ⟨(some 23), none, .p (.idxSl 1 (.tmp 20) (.tmp 22))⟩, []⟩,
           ⟨10, ⟨(some 24), none, .r1 (.tmp 23)⟩, []⟩,
           ⟨11, ⟨(some 25), none, .p (.idxSl 1 (.tmp 14) (.tmp 16))⟩, []⟩,
           ⟨12, ⟨none, none, .w (.st1 (.tmp 25) (.tmp 24))⟩, []⟩])
        .ret)
       (.seq
        (.region [⟨(some 27), none, .p (.ibin .eql (.tmp 11) (.const (.int .i64 34)))⟩,
           ⟨(some 26), none, .p (.mv (.tmp 27))⟩])
        (.cond (.tmp 26)
         (.seq
          (.draw [⟨0, ⟨(some 28), none, .p (.mv (.tmp 0))⟩, []⟩,
             ⟨1, ⟨(some 29), none, .p (.nilck (.tmp 28))⟩, []⟩,
             ⟨2, ⟨(some 30), none, .p (.fieldA 3 (.tmp 29))⟩, []⟩,
             ⟨3, ⟨(some 31), none, .r1 (.tmp 30)⟩, []⟩,
             ⟨4, ⟨(some 32), none, .p (.fieldA 1 (.tmp 5))⟩, []⟩,
             ⟨5, ⟨(some 33), none, .r1 (.tmp 32)⟩, []⟩,
             ⟨6, ⟨(some 34), none, .p (.mv (.tmp 1))⟩, []⟩,
             ⟨7, ⟨(some 35), none, .p (.fieldA 2 (.tmp 5))⟩, []⟩,
             ⟨8, ⟨(some 36), none, .r1 (.tmp 35)⟩, []⟩,
             ⟨9, ⟨(some 37), none, .p (.idxSl 1 (.tmp 34) (.tmp 36))⟩, []⟩,
             ⟨10, ⟨(some 38), none, .r1 (.tmp 37)⟩, []⟩,
             ⟨11, ⟨(some 39), none, .p (.idxSl 1 (.tmp 31) (.tmp 33))⟩, []⟩,
             ⟨12, ⟨none, none, .w (.st1 (.tmp 39) (.tmp 38))⟩, []⟩])
          .ret)
         (.seq
          (.region [⟨(some 41), none, .p (.ibin .eql (.tmp 11) (.const (.int .i64 26)))⟩,
             ⟨(some 40), none, .p (.mv (.tmp 41))⟩])
          (.cond (.tmp 40)
           (.seq
            (.draw [⟨0, ⟨(some 42), none, .p (.mv (.tmp 1))⟩, []⟩,
               ⟨1, ⟨(some 43), none, .p (.fieldA 1 (.tmp 5))⟩, []⟩,
               ⟨2, ⟨(some 44), none, .r1 (.tmp 43)⟩, []⟩,
               ⟨3, ⟨(some 45), none, .p (.mv (.tmp 0))⟩, []⟩,
               ⟨4, ⟨(some 46), none, .p (.fieldA 2 (.tmp 5))⟩, []⟩,
               ⟨5, ⟨(some 47), none, .r1 (.tmp 46)⟩, []⟩,
               ⟨6, ⟨(some 48), none, .p (.ibin .add (.const (.int .i64 16)) (.tmp 47))⟩, []⟩,
               ⟨7, ⟨(some 49), none, .p (.mv (.tmp 0))⟩, []⟩,
               ⟨8, ⟨(some 50), none, .p (.nilck (.tmp 49))⟩, []⟩,
               ⟨9, ⟨(some 51), none, .p (.fieldA 0 (.tmp 50))⟩, []⟩,
               ⟨10, ⟨(some 52), none, .p (.fieldA 0 (.tmp 51))⟩, []⟩,
               ⟨11, ⟨(some 53), none, .r1 (.tmp 52)⟩, []⟩,
               ⟨12, ⟨(some 54), none, .p (.fieldA 2 (.tmp 5))⟩, []⟩,
               ⟨13, ⟨(some 55), none, .r1 (.tmp 54)⟩, []⟩,
               ⟨14, ⟨(some 56), none, .p (.idxSl 2 (.tmp 53) (.tmp 55))⟩, []⟩,
               ⟨15, ⟨(some 57), none, .p (.fieldA 1 (.tmp 56))⟩, []⟩,
               ⟨16, ⟨(some 58), none, .r1 (.tmp 57)⟩, []⟩,
               ⟨17, ⟨(some 59), none, .p (.len false (.tmp 58))⟩, []⟩,
               ⟨18, ⟨(some 60), none, .w (.mksl 35 8 [.int .u64 0] (.tmp 59) (.tmp 59))⟩, []⟩,
               ⟨19, ⟨(some 61), none, .p (.build [.int .i64 0, .slice none 0 0, .pointer none] [(0, 1, (.tmp 48)), (1, 1, (.tmp 60))])⟩, []⟩,
               ⟨20, ⟨(some 62), none, .w (.call 74 [(.tmp 45), (.tmp 61)])⟩, [2]⟩,
               ⟨21, ⟨(some 63), none, .p (.idxSl 1 (.tmp 42) (.tmp 44))⟩, []⟩,
               ⟨22, ⟨none, none, .w (.st1 (.tmp 63) (.tmp 62))⟩, []⟩])
            .ret)
           (.seq
            (.region [⟨(some 65), none, .p (.ibin .eql (.tmp 11) (.const (.int .i64 27)))⟩,
               ⟨(some 64), none, .p (.mv (.tmp 65))⟩])
            (.cond (.tmp 64)
             (.seq
              (.seq
               (.region [⟨(some 66), none, .p (.mv (.tmp 1))⟩,
                  ⟨(some 67), none, .p (.fieldA 3 (.tmp 5))⟩,
                  ⟨(some 68), none, .r1 (.tmp 67)⟩,
                  ⟨(some 69), none, .p (.idxSl 1 (.tmp 66) (.tmp 68))⟩,
                  ⟨(some 70), none, .r1 (.tmp 69)⟩,
                  ⟨(some 71), none, .p (.conv .i64 (.tmp 70))⟩,
                  ⟨(some 6), none, .p (.mv (.tmp 71))⟩])
               (.seq
                (.region [⟨(some 72), none, .p (.mv (.tmp 6))⟩,
                   ⟨(some 73), none, .p (.ibin .lss (.tmp 72) (.const (.int .i64 0)))⟩,
                   ⟨(some 74), none, .p (.mv (.tmp 73))⟩,
                   ⟨(some 75), (some (74, false)), .p (.mv (.tmp 6))⟩,
                   ⟨(some 76), (some (74, false)), .p (.ibin .gtr (.tmp 75) (.const (.int .i64 1023)))⟩,
                   ⟨(some 77), none, .p (.pick (.tmp 74) (.const (.bool true)) (.tmp 76))⟩])
                (.cond (.tmp 77)
                 (.region [⟨(some 78), none, .p (.mv (.tmp 0))⟩,
                    ⟨(some 79), none, .w (.call 28 [(.tmp 78), (.const (.int .i64 (-2)))])⟩])
                 (.draw [⟨0, ⟨(some 80), none, .p (.mv (.tmp 1))⟩, []⟩,
                    ⟨1, ⟨(some 81), none, .p (.fieldA 1 (.tmp 5))⟩, []⟩,
                    ⟨2, ⟨(some 82), none, .r1 (.tmp 81)⟩, []⟩,
                    ⟨3, ⟨(some 83), none, .p (.mv (.tmp 0))⟩, []⟩,
                    ⟨4, ⟨(some 84), none, .p (.fieldA 2 (.tmp 5))⟩, []⟩,
                    ⟨5, ⟨(some 85), none, .r1 (.tmp 84)⟩, []⟩,
                    ⟨6, ⟨(some 86), none, .p (.ibin .add (.const (.int .i64 16)) (.tmp 85))⟩, []⟩,
                    ⟨7, ⟨(some 87), none, .p (.mv (.tmp 6))⟩, []⟩,
                    ⟨8, ⟨(some 88), none, .w (.mksl 35 8 [.int .u64 0] (.tmp 87) (.tmp 87))⟩, []⟩,
                    ⟨9, ⟨(some 89), none, .p (.build [.int .i64 0, .slice none 0 0, .pointer none] [(0, 1, (.tmp 86)), (1, 1, (.tmp 88))])⟩, []⟩,
                    ⟨10, ⟨(some 90), none, .w (.call 74 [(.tmp 83), (.tmp 89)])⟩, [2]⟩,
                    ⟨11, ⟨(some 91), none, .p (.idxSl 1 (.tmp 80) (.tmp 82))⟩, []⟩,
                    ⟨12, ⟨none, none, .w (.st1 (.tmp 91) (.tmp 90))⟩, []⟩]))))
              .ret)
             .skip))))))))))
   (.seq
    (.region [⟨(some 92), none, .p (.fieldA 2 (.tmp 5))⟩,
       ⟨(some 93), none, .r1 (.tmp 92)⟩,
       ⟨(some 7), none, .p (.mv (.tmp 93))⟩])
    (.seq
     (.seq
      (.region [⟨(some 94), none, .p (.fieldA 0 (.tmp 5))⟩,
         ⟨(some 95), none, .r1 (.tmp 94)⟩,
         ⟨(some 96), none, .p (.ibin .eql (.tmp 95) (.const (.int .i64 30)))⟩,
         ⟨(some 97), none, .p (.mv (.tmp 96))⟩,
         ⟨(some 98), (some (97, false)), .p (.fieldA 0 (.tmp 5))⟩,
         ⟨(some 99), (some (97, false)), .r1 (.tmp 98)⟩,
         ⟨(some 100), (some (97, false)), .p (.ibin .eql (.tmp 99) (.const (.int .i64 32)))⟩,
         ⟨(some 101), none, .p (.pick (.tmp 97) (.const (.bool true)) (.tmp 100))⟩])
      (.cond (.tmp 101)
       (.region [⟨(some 102), none, .p (.fieldA 1 (.tmp 5))⟩,
          ⟨(some 103), none, .r1 (.tmp 102)⟩,
          ⟨(some 7), none, .p (.mv (.tmp 103))⟩])
       .skip))
     (.seq
      (.seq
       (.region [⟨(some 104), none, .p (.mv (.tmp 1))⟩,
          ⟨(some 105), none, .p (.mv (.tmp 7))⟩,
          ⟨(some 106), none, .p (.idxSl 1 (.tmp 104) (.tmp 105))⟩,
          ⟨(some 107), none, .r1 (.tmp 106)⟩,
          ⟨(some 108), none, .p (.ibin .eql (.tmp 107) (.const (.int .u64 0)))⟩])
       (.cond (.tmp 108)
        (.seq
         (.region [⟨(some 109), none, .p (.mv (.tmp 0))⟩,
            ⟨(some 110), none, .w (.call 28 [(.tmp 109), (.const (.int .i64 (-1)))])⟩])
         .ret)
        .skip))
      (.seq
       (.draw [⟨0, ⟨(some 111), none, .p (.mv (.tmp 0))⟩, []⟩,
          ⟨1, ⟨(some 112), none, .p (.nilck (.tmp 111))⟩, []⟩,
          ⟨2, ⟨(some 113), none, .p (.fieldA 4 (.tmp 112))⟩, []⟩,
          ⟨3, ⟨(some 114), none, .r1 (.tmp 113)⟩, []⟩,
          ⟨4, ⟨(some 115), none, .p (.mv (.tmp 1))⟩, []⟩,
          ⟨5, ⟨(some 116), none, .p (.mv (.tmp 7))⟩, []⟩,
          ⟨6, ⟨(some 117), none, .p (.idxSl 1 (.tmp 115) (.tmp 116))⟩, []⟩,
          ⟨7, ⟨(some 118), none, .r1 (.tmp 117)⟩, []⟩,
          ⟨8, ⟨(some 119), none, .p (.idxSl 3 (.tmp 114) (.tmp 118))⟩, []⟩,
          ⟨9, ⟨(some 120), none, .p (.fieldA 1 (.tmp 119))⟩, []⟩,
          ⟨10, ⟨(some 121), none, .r1 (.tmp 120)⟩, []⟩,
          ⟨11, ⟨(some 8), none, .p (.mv (.tmp 121))⟩, []⟩])
       (.seq
        (.region [⟨(some 122), none, .p (.fieldA 3 (.tmp 5))⟩,
           ⟨(some 123), none, .r1 (.tmp 122)⟩,
           ⟨(some 9), none, .p (.mv (.tmp 123))⟩])
        (.seq
         (.seq
          (.region [⟨(some 124), none, .p (.fieldA 0 (.tmp 5))⟩,
             ⟨(some 125), none, .r1 (.tmp 124)⟩,
             ⟨(some 126), none, .p (.ibin .eql (.tmp 125) (.const (.int .i64 31)))⟩,
             ⟨(some 127), none, .p (.mv (.tmp 126))⟩,
             ⟨(some 128), (some (127, false)), .p (.fieldA 0 (.tmp 5))⟩,
             ⟨(some 129), (some (127, false)), .r1 (.tmp 128)⟩,
             ⟨(some 130), (some (127, false)), .p (.ibin .eql (.tmp 129) (.const (.int .i64 32)))⟩,
             ⟨(some 131), none, .p (.pick (.tmp 127) (.const (.bool true)) (.tmp 130))⟩])
          (.cond (.tmp 131)
           (.seq
            (.region [⟨(some 132), none, .p (.mv (.tmp 1))⟩,
               ⟨(some 133), none, .p (.fieldA 3 (.tmp 5))⟩,
               ⟨(some 134), none, .r1 (.tmp 133)⟩,
               ⟨(some 135), none, .p (.idxSl 1 (.tmp 132) (.tmp 134))⟩,
               ⟨(some 136), none, .r1 (.tmp 135)⟩,
               ⟨(some 137), none, .p (.conv .i64 (.tmp 136))⟩,
               ⟨(some 9), none, .p (.mv (.tmp 137))⟩])
            (.seq
             (.region [⟨(some 138), none, .p (.mv (.tmp 9))⟩,
                ⟨(some 139), none, .p (.ibin .lss (.tmp 138) (.const (.int .i64 0)))⟩,
                ⟨(some 140), none, .p (.mv (.tmp 139))⟩,
                ⟨(some 141), (some (140, false)), .p (.mv (.tmp 9))⟩,
                ⟨(some 142), (some (140, false)), .p (.mv (.tmp 8))⟩,
                ⟨(some 143), (some (140, false)), .p (.len false (.tmp 142))⟩,
                ⟨(some 144), (some (140, false)), .p (.ibin .geq (.tmp 141) (.tmp 143))⟩,
                ⟨(some 145), none, .p (.pick (.tmp 140) (.const (.bool true)) (.tmp 144))⟩])
             (.cond (.tmp 145)
              (.seq
               (.region [⟨(some 146), none, .p (.mv (.tmp 0))⟩,
                  ⟨(some 147), none, .w (.call 28 [(.tmp 146), (.const (.int .i64 (-2)))])⟩])
               .ret)
              .skip)))
           .skip))
         (.seq
          (.region [⟨(some 148), none, .p (.fieldA 0 (.tmp 5))⟩,
             ⟨(some 149), none, .r1 (.tmp 148)⟩])
          (.block 1
           (.seq
            (.region [⟨(some 159), none, .p (.ibin .eql (.tmp 149) (.const (.int .i64 28)))⟩,
               ⟨(some 158), none, .p (.mv (.tmp 159))⟩])
            (.cond (.tmp 158)
             (.region [⟨(some 160), none, .p (.mv (.tmp 1))⟩,
                ⟨(some 161), none, .p (.fieldA 1 (.tmp 5))⟩,
                ⟨(some 162), none, .r1 (.tmp 161)⟩,
                ⟨(some 163), none, .p (.mv (.tmp 8))⟩,
                ⟨(some 164), none, .p (.len false (.tmp 163))⟩,
                ⟨(some 165), none, .p (.conv .u64 (.tmp 164))⟩,
                ⟨(some 166), none, .p (.idxSl 1 (.tmp 160) (.tmp 162))⟩,
                ⟨none, none, .w (.st1 (.tmp 166) (.tmp 165))⟩])
             (.seq
              (.seq
               (.region [⟨(some 168), none, .p (.ibin .eql (.tmp 149) (.const (.int .i64 29)))⟩,
                  ⟨(some 167), none, .p (.mv (.tmp 168))⟩])
               (.cond (.tmp 167)
                .skip
                (.region [⟨(some 169), none, .p (.ibin .eql (.tmp 149) (.const (.int .i64 31)))⟩,
                   ⟨(some 167), none, .p (.mv (.tmp 169))⟩])))
              (.cond (.tmp 167)
               (.draw [⟨0, ⟨(some 170), none, .p (.mv (.tmp 1))⟩, []⟩,
                  ⟨1, ⟨(some 171), none, .p (.fieldA 1 (.tmp 5))⟩, []⟩,
                  ⟨2, ⟨(some 172), none, .r1 (.tmp 171)⟩, []⟩,
                  ⟨3, ⟨(some 173), none, .p (.mv (.tmp 8))⟩, []⟩,
                  ⟨4, ⟨(some 174), none, .p (.mv (.tmp 9))⟩, []⟩,
                  ⟨5, ⟨(some 175), none, .p (.idxSl 1 (.tmp 173) (.tmp 174))⟩, []⟩,
                  ⟨6, ⟨(some 176), none, .r1 (.tmp 175)⟩, []⟩,
                  ⟨7, ⟨(some 177), none, .p (.idxSl 1 (.tmp 170) (.tmp 172))⟩, []⟩,
                  ⟨8, ⟨none, none, .w (.st1 (.tmp 177) (.tmp 176))⟩, []⟩])
               (.region [⟨(some 150), none, .p (.mv (.tmp 8))⟩,
                  ⟨(some 151), none, .p (.mv (.tmp 9))⟩,
                  ⟨(some 152), none, .p (.mv (.tmp 1))⟩,
                  ⟨(some 153), none, .p (.fieldA 2 (.tmp 5))⟩,
                  ⟨(some 154), none, .r1 (.tmp 153)⟩,
                  ⟨(some 155), none, .p (.idxSl 1 (.tmp 152) (.tmp 154))⟩,
                  ⟨(some 156), none, .r1 (.tmp 155)⟩,
                  ⟨(some 157), none, .p (.idxSl 1 (.tmp 150) (.tmp 151))⟩,
                  ⟨none, none, .w (.st1 (.tmp 157) (.tmp 156))⟩]))))))))))))))), []⟩
theorem comp53 : compFunc Try.prog 53 = some a53 := by kernel_rfl
theorem callable53 : callable Try.prog 53 = true := by kernel_rfl

/-- (*treadle/ideal.Ideal).channels -/
def a55 : AFunc := ⟨5, (.seq
  (.region [⟨(some 8), none, .w (.box 38 (.tmp 3))⟩])
  (.seq
   (.region [⟨(some 15), none, .p (.mv (.tmp 2))⟩,
      ⟨(some 16), none, .p (.nilck (.tmp 15))⟩,
      ⟨(some 17), none, .p (.fieldA 3 (.tmp 16))⟩,
      ⟨(some 18), none, .r1 (.tmp 17)⟩,
      ⟨(some 10), none, .p (.mv (.tmp 18))⟩])
   (.seq
    (.region [⟨(some 19), none, .p (.fieldA 0 (.tmp 8))⟩,
       ⟨(some 20), none, .r1 (.tmp 19)⟩])
    (.block 0
     (.seq
      (.region [⟨(some 22), none, .p (.ibin .eql (.tmp 20) (.const (.int .i64 41)))⟩,
         ⟨(some 21), none, .p (.mv (.tmp 22))⟩])
      (.cond (.tmp 21)
       (.seq
        (.region [⟨(some 24), none, .p (.fieldA 4 (.tmp 8))⟩,
           ⟨(some 25), none, .r1 (.tmp 24)⟩,
           ⟨(some 26), none, .p (.conv .i64 (.tmp 25))⟩,
           ⟨(some 27), none, .w (.call 77 [(.tmp 26)])⟩,
           ⟨(some 23), none, .p (.mv (.tmp 27))⟩,
           ⟨(some 28), none, .p (.extract 0 (.tmp 23))⟩,
           ⟨(some 29), none, .p (.extract 1 (.tmp 23))⟩,
           ⟨(some 11), none, .p (.mv (.tmp 28))⟩,
           ⟨(some 12), none, .p (.mv (.tmp 29))⟩])
        (.draw [⟨0, ⟨(some 30), none, .p (.mv (.tmp 10))⟩, []⟩,
           ⟨1, ⟨(some 31), none, .p (.fieldA 1 (.tmp 8))⟩, []⟩,
           ⟨2, ⟨(some 32), none, .r1 (.tmp 31)⟩, []⟩,
           ⟨3, ⟨(some 33), none, .p (.mv (.tmp 0))⟩, []⟩,
           ⟨4, ⟨(some 34), none, .p (.mv (.tmp 0))⟩, []⟩,
           ⟨5, ⟨(some 35), none, .p (.nilck (.tmp 34))⟩, []⟩,
           ⟨6, ⟨(some 36), none, .p (.fieldA 0 (.tmp 35))⟩, []⟩,
           ⟨7, ⟨(some 37), none, .p (.fieldA 2 (.tmp 36))⟩, []⟩,
           ⟨8, ⟨(some 38), none, .r1 (.tmp 37)⟩, []⟩,
           ⟨9, ⟨(some 39), none, .p (.mv (.tmp 2))⟩, []⟩,
           ⟨10, ⟨(some 40), none, .p (.nilck (.tmp 39))⟩, []⟩,
           ⟨11, ⟨(some 41), none, .p (.fieldA 0 (.tmp 40))⟩, []⟩,
           ⟨12, ⟨(some 42), none, .r1 (.tmp 41)⟩, []⟩,
           ⟨13, ⟨(some 43), none, .p (.idxSl 4 (.tmp 38) (.tmp 42))⟩, []⟩,
           ⟨14, ⟨(some 44), none, .p (.fieldA 1 (.tmp 43))⟩, []⟩,
           ⟨15, ⟨(some 45), none, .r1 (.tmp 44)⟩, []⟩,
           ⟨16, ⟨(some 46), none, .p (.fieldA 1 (.tmp 8))⟩, []⟩,
           ⟨17, ⟨(some 47), none, .r1 (.tmp 46)⟩, []⟩,
           ⟨18, ⟨(some 48), none, .p (.idxSl 1 (.tmp 45) (.tmp 47))⟩, []⟩,
           ⟨19, ⟨(some 49), none, .r1 (.tmp 48)⟩, []⟩,
           ⟨20, ⟨(some 50), none, .p (.fieldA 4 (.tmp 8))⟩, []⟩,
           ⟨21, ⟨(some 51), none, .r1 (.tmp 50)⟩, []⟩,
           ⟨22, ⟨(some 52), none, .p (.conv .i64 (.tmp 51))⟩, []⟩,
           ⟨23, ⟨(some 53), none, .p (.ibin .add (.tmp 52) (.const (.int .i64 2)))⟩, []⟩,
           ⟨25, ⟨(some 55), none, .p (.mv (.tmp 11))⟩, []⟩,
           ⟨24, ⟨(some 54), none, .w (.mksl 35 8 [.int .u64 0] (.tmp 53) (.tmp 53))⟩, []⟩,
           ⟨26, ⟨(some 56), none, .p (.build [.int .i64 0, .slice none 0 0, .pointer none] [(0, 1, (.tmp 49)), (1, 1, (.tmp 54)), (2, 1, (.tmp 55))])⟩, []⟩,
           ⟨27, ⟨(some 57), none, .w (.call 74 [(.tmp 33), (.tmp 56)])⟩, [2]⟩,
           ⟨28, ⟨(some 58), none, .p (.idxSl 1 (.tmp 30) (.tmp 32))⟩, []⟩,
           ⟨29, ⟨none, none, .w (.st1 (.tmp 58) (.tmp 57))⟩, []⟩]))
       (.seq
        (.region [⟨(some 60), none, .p (.ibin .eql (.tmp 20) (.const (.int .i64 44)))⟩,
           ⟨(some 59), none, .p (.mv (.tmp 60))⟩])
        (.cond (.tmp 59)
         (.region [⟨(some 61), none, .p (.mv (.tmp 0))⟩,
            ⟨(some 62), none, .p (.mv (.tmp 10))⟩,
            ⟨(some 63), none, .p (.fieldA 1 (.tmp 8))⟩,
            ⟨(some 64), none, .r1 (.tmp 63)⟩,
            ⟨(some 65), none, .p (.idxSl 1 (.tmp 62) (.tmp 64))⟩,
            ⟨(some 66), none, .r1 (.tmp 65)⟩,
            ⟨(some 67), none, .w (.call 78 [(.tmp 61), (.tmp 66)])⟩])
         (.seq
          (.region [⟨(some 69), none, .p (.ibin .eql (.tmp 20) (.const (.int .i64 42)))⟩,
             ⟨(some 68), none, .p (.mv (.tmp 69))⟩])
          (.cond (.tmp 68)
           (.seq
            (.region [⟨(some 70), none, .p (.mv (.tmp 0))⟩,
               ⟨(some 71), none, .p (.mv (.tmp 10))⟩,
               ⟨(some 72), none, .p (.fieldA 1 (.tmp 8))⟩,
               ⟨(some 73), none, .r1 (.tmp 72)⟩,
               ⟨(some 74), none, .p (.idxSl 1 (.tmp 71) (.tmp 73))⟩,
               ⟨(some 75), none, .r1 (.tmp 74)⟩,
               ⟨(some 76), none, .w (.call 79 [(.tmp 70), (.tmp 75)])⟩,
               ⟨(some 13), none, .p (.mv (.tmp 76))⟩])
            (.seq
             (.draw [⟨0, ⟨(some 77), none, .p (.mv (.tmp 13))⟩, []⟩,
                ⟨1, ⟨(some 78), none, .p (.eqp false (.tmp 77) (.const (.pointer none)))⟩, []⟩,
                ⟨2, ⟨(some 79), none, .p (.mv (.tmp 78))⟩, []⟩,
                ⟨3, ⟨(some 80), (some (79, false)), .p (.mv (.tmp 0))⟩, []⟩,
                ⟨4, ⟨(some 81), (some (79, false)), .p (.mv (.tmp 13))⟩, []⟩,
                ⟨5, ⟨(some 82), (some (79, false)), .p (.mv (.tmp 0))⟩, []⟩,
                ⟨6, ⟨(some 83), (some (79, false)), .p (.nilck (.tmp 82))⟩, []⟩,
                ⟨7, ⟨(some 84), (some (79, false)), .p (.fieldA 9 (.tmp 83))⟩, []⟩,
                ⟨8, ⟨(some 85), (some (79, false)), .r1 (.tmp 84)⟩, []⟩,
                ⟨10, ⟨(some 87), (some (79, false)), .p (.mv (.tmp 10))⟩, []⟩,
                ⟨11, ⟨(some 88), (some (79, false)), .p (.fieldA 2 (.tmp 8))⟩, []⟩,
                ⟨12, ⟨(some 89), (some (79, false)), .r1 (.tmp 88)⟩, []⟩,
                ⟨13, ⟨(some 90), (some (79, false)), .p (.idxSl 1 (.tmp 87) (.tmp 89))⟩, []⟩,
                ⟨14, ⟨(some 91), (some (79, false)), .r1 (.tmp 90)⟩, []⟩,
                ⟨9, ⟨(some 86), (some (79, false)), .w (.call 81 [(.tmp 85), (.const (.int .i64 (-1)))])⟩, [12, 14]⟩,
                ⟨15, ⟨(some 92), (some (79, false)), .w (.call 80 [(.tmp 80), (.tmp 81), (.tmp 86), (.tmp 91), (.const (.bool true))])⟩, []⟩,
                ⟨16, ⟨(some 93), (some (79, false)), .p (.not (.tmp 92))⟩, []⟩,
                ⟨17, ⟨(some 94), none, .p (.pick (.tmp 79) (.const (.bool true)) (.tmp 93))⟩, []⟩])
             (.cond (.tmp 94)
              (.region [⟨(some 95), none, .p (.mv (.tmp 1))⟩,
                 ⟨(some 96), none, .p (.nilck (.tmp 95))⟩,
                 ⟨(some 97), none, .p (.fieldA 0 (.tmp 96))⟩,
                 ⟨none, none, .w (.st1 (.tmp 97) (.const (.int .i64 2)))⟩])
              .skip)))
           (.seq
            (.region [⟨(some 99), none, .p (.ibin .eql (.tmp 20) (.const (.int .i64 43)))⟩,
               ⟨(some 98), none, .p (.mv (.tmp 99))⟩])
            (.cond (.tmp 98)
             (.seq
              (.region [⟨(some 100), none, .p (.mv (.tmp 0))⟩,
                 ⟨(some 101), none, .p (.mv (.tmp 10))⟩,
                 ⟨(some 102), none, .p (.fieldA 2 (.tmp 8))⟩,
                 ⟨(some 103), none, .r1 (.tmp 102)⟩,
                 ⟨(some 104), none, .p (.idxSl 1 (.tmp 101) (.tmp 103))⟩,
                 ⟨(some 105), none, .r1 (.tmp 104)⟩,
                 ⟨(some 106), none, .w (.call 79 [(.tmp 100), (.tmp 105)])⟩,
                 ⟨(some 14), none, .p (.mv (.tmp 106))⟩])
              (.seq
               (.draw [⟨0, ⟨(some 107), none, .p (.mv (.tmp 14))⟩, []⟩,
                  ⟨1, ⟨(some 108), none, .p (.eqp false (.tmp 107) (.const (.pointer none)))⟩, []⟩,
                  ⟨2, ⟨(some 109), none, .p (.mv (.tmp 108))⟩, []⟩,
                  ⟨3, ⟨(some 110), (some (109, false)), .p (.mv (.tmp 0))⟩, []⟩,
                  ⟨4, ⟨(some 111), (some (109, false)), .p (.mv (.tmp 14))⟩, []⟩,
                  ⟨5, ⟨(some 112), (some (109, false)), .p (.mv (.tmp 0))⟩, []⟩,
                  ⟨6, ⟨(some 113), (some (109, false)), .p (.nilck (.tmp 112))⟩, []⟩,
                  ⟨7, ⟨(some 114), (some (109, false)), .p (.fieldA 9 (.tmp 113))⟩, []⟩,
                  ⟨8, ⟨(some 115), (some (109, false)), .r1 (.tmp 114)⟩, []⟩,
                  ⟨10, ⟨(some 117), (some (109, false)), .p (.mv (.tmp 10))⟩, []⟩,
                  ⟨11, ⟨(some 118), (some (109, false)), .p (.fieldA 1 (.tmp 8))⟩, []⟩,
                  ⟨12, ⟨(some 119), (some (109, false)), .r1 (.tmp 118)⟩, []⟩,
                  ⟨13, ⟨(some 120), (some (109, false)), .p (.fieldA 3 (.tmp 8))⟩, []⟩,
                  ⟨14, ⟨(some 121), (some (109, false)), .r1 (.tmp 120)⟩, []⟩,
                  ⟨9, ⟨(some 116), (some (109, false)), .w (.call 81 [(.tmp 115), (.const (.int .i64 (-1)))])⟩, [12, 14]⟩,
                  ⟨15, ⟨(some 122), (some (109, false)), .w (.call 82 [(.tmp 110), (.tmp 111), (.tmp 116), (.tmp 117), (.tmp 119), (.tmp 121), (.const (.bool true))])⟩, []⟩,
                  ⟨16, ⟨(some 123), (some (109, false)), .p (.not (.tmp 122))⟩, []⟩,
                  ⟨17, ⟨(some 124), none, .p (.pick (.tmp 109) (.const (.bool true)) (.tmp 123))⟩, []⟩])
               (.cond (.tmp 124)
                (.region [⟨(some 125), none, .p (.mv (.tmp 1))⟩,
                   ⟨(some 126), none, .p (.nilck (.tmp 125))⟩,
                   ⟨(some 127), none, .p (.fieldA 0 (.tmp 126))⟩,
                   ⟨none, none, .w (.st1 (.tmp 127) (.const (.int .i64 2)))⟩])
                .skip)))
             (.seq
              (.region [⟨(some 129), none, .p (.ibin .eql (.tmp 20) (.const (.int .i64 45)))⟩,
                 ⟨(some 128), none, .p (.mv (.tmp 129))⟩])
              (.cond (.tmp 128)
               (.region [⟨(some 130), none, .p (.mv (.tmp 0))⟩,
                  ⟨(some 131), none, .p (.mv (.tmp 1))⟩,
                  ⟨(some 132), none, .p (.mv (.tmp 10))⟩,
                  ⟨(some 133), none, .rN 6 (.tmp 8)⟩,
                  ⟨(some 134), none, .p (.mv (.tmp 4))⟩,
                  ⟨(some 135), none, .w (.call 83 [(.tmp 130), (.tmp 131), (.tmp 132), (.tmp 133), (.tmp 134)])⟩])
               .skip)))))))))))))), []⟩
theorem comp55 : compFunc Try.prog 55 = some a55 := by kernel_rfl
theorem callable55 : callable Try.prog 55 = true := by kernel_rfl

/-- (*treadle/verify.checker).kind -/
def a59 : AFunc := ⟨2, (.seq
  (.region [⟨(some 4), none, .p (.mv (.const (.bool false)))⟩])
  (.seq
   (.block 0
    (.seq
     (.region [⟨(some 7), none, .p (.mv (.tmp 1))⟩,
        ⟨(some 8), none, .p (.ibin .eql (.tmp 7) (.const (.int .i64 0)))⟩,
        ⟨(some 9), none, .p (.mv (.tmp 8))⟩,
        ⟨(some 10), (some (9, false)), .p (.mv (.tmp 1))⟩,
        ⟨(some 11), (some (9, false)), .p (.ibin .eql (.tmp 10) (.const (.int .i64 1)))⟩,
        ⟨(some 12), none, .p (.pick (.tmp 9) (.const (.bool true)) (.tmp 11))⟩,
        ⟨(some 6), none, .p (.mv (.tmp 12))⟩])
     (.cond (.tmp 6)
      (.seq
       (.region [⟨(some 4), none, .p (.mv (.const (.bool true)))⟩])
       .ret)
      (.seq
       (.region [⟨(some 14), none, .p (.mv (.tmp 1))⟩,
          ⟨(some 15), none, .p (.ibin .geq (.tmp 14) (.const (.int .i64 16)))⟩,
          ⟨(some 16), none, .p (.mv (.tmp 15))⟩,
          ⟨(some 17), (some (16, true)), .p (.mv (.tmp 1))⟩,
          ⟨(some 18), (some (16, true)), .p (.ibin .lss (.tmp 17) (.const (.int .i64 64)))⟩,
          ⟨(some 19), none, .p (.pick (.tmp 16) (.tmp 18) (.const (.bool false)))⟩,
          ⟨(some 13), none, .p (.mv (.tmp 19))⟩])
       (.cond (.tmp 13)
        (.seq
         (.region [⟨(some 20), none, .p (.mv (.tmp 1))⟩,
            ⟨(some 21), none, .p (.ibin .sub (.tmp 20) (.const (.int .i64 16)))⟩,
            ⟨(some 22), none, .p (.mv (.tmp 0))⟩,
            ⟨(some 23), none, .p (.nilck (.tmp 22))⟩,
            ⟨(some 24), none, .p (.fieldA 0 (.tmp 23))⟩,
            ⟨(some 25), none, .p (.fieldA 0 (.tmp 24))⟩,
            ⟨(some 26), none, .r1 (.tmp 25)⟩,
            ⟨(some 27), none, .p (.len false (.tmp 26))⟩,
            ⟨(some 28), none, .p (.ibin .lss (.tmp 21) (.tmp 27))⟩,
            ⟨(some 4), none, .p (.mv (.tmp 28))⟩])
         .ret)
        (.seq
         (.region [⟨(some 30), none, .p (.mv (.tmp 1))⟩,
            ⟨(some 31), none, .p (.ibin .geq (.tmp 30) (.const (.int .i64 64)))⟩,
            ⟨(some 29), none, .p (.mv (.tmp 31))⟩])
         (.cond (.tmp 29)
          (.seq
           (.region [⟨(some 32), none, .p (.mv (.tmp 1))⟩,
              ⟨(some 33), none, .p (.ibin .sub (.tmp 32) (.const (.int .i64 64)))⟩,
              ⟨(some 5), none, .p (.mv (.tmp 33))⟩])
           (.seq
            (.region [⟨(some 34), none, .p (.mv (.tmp 5))⟩,
               ⟨(some 35), none, .p (.ibin .lss (.tmp 34) (.const (.int .i64 64)))⟩,
               ⟨(some 36), none, .p (.mv (.tmp 35))⟩,
               ⟨(some 37), (some (36, true)), .p (.mv (.tmp 0))⟩,
               ⟨(some 38), (some (36, true)), .p (.mv (.tmp 5))⟩,
               ⟨(some 39), (some (36, true)), .w (.call 59 [(.tmp 37), (.tmp 38)])⟩,
               ⟨(some 40), none, .p (.pick (.tmp 36) (.tmp 39) (.const (.bool false)))⟩,
               ⟨(some 4), none, .p (.mv (.tmp 40))⟩])
            .ret))
          .skip)))))))
   (.seq
    (.region [⟨(some 4), none, .p (.mv (.const (.bool false)))⟩])
    .ret))), [.tmp 4]⟩
theorem comp59 : compFunc Try.prog 59 = some a59 := by kernel_rfl
theorem callable59 : callable Try.prog 59 = true := by kernel_rfl

/-- treadle/verify.shape -/
def a61 : AFunc := ⟨1, (.seq
  (.region [⟨(some 2), none, .p (.mv (.const (.int .i64 0)))⟩,
     ⟨(some 3), none, .p (.mv (.const (.bool false)))⟩,
     ⟨(some 4), none, .p (.mv (.const (.bool false)))⟩])
  (.seq
   (.seq
    (.region [⟨(some 5), none, .p (.mv (.tmp 0))⟩])
    (.block 0
     (.seq
      (.seq
       (.region [⟨(some 7), none, .p (.ibin .eql (.tmp 5) (.const (.int .i64 1)))⟩,
          ⟨(some 6), none, .p (.mv (.tmp 7))⟩])
       (.cond (.tmp 6)
        .skip
        (.region [⟨(some 8), none, .p (.ibin .eql (.tmp 5) (.const (.int .i64 41)))⟩,
           ⟨(some 6), none, .p (.mv (.tmp 8))⟩])))
      (.cond (.tmp 6)
       (.seq
        (.region [⟨(some 2), none, .p (.mv (.const (.int .i64 1)))⟩,
           ⟨(some 3), none, .p (.mv (.const (.bool true)))⟩,
           ⟨(some 4), none, .p (.mv (.const (.bool false)))⟩])
        .ret)
       (.seq
        (.region [⟨(some 10), none, .p (.ibin .eql (.tmp 5) (.const (.int .i64 36)))⟩,
           ⟨(some 9), none, .p (.mv (.tmp 10))⟩])
        (.cond (.tmp 9)
         (.seq
          (.region [⟨(some 2), none, .p (.mv (.const (.int .i64 0)))⟩,
             ⟨(some 3), none, .p (.mv (.const (.bool false)))⟩,
             ⟨(some 4), none, .p (.mv (.const (.bool true)))⟩])
          .ret)
         (.seq
          (.seq
           (.region [⟨(some 12), none, .p (.ibin .eql (.tmp 5) (.const (.int .i64 35)))⟩,
              ⟨(some 11), none, .p (.mv (.tmp 12))⟩])
           (.cond (.tmp 11)
            .skip
            (.seq
             (.region [⟨(some 13), none, .p (.ibin .eql (.tmp 5) (.const (.int .i64 37)))⟩,
                ⟨(some 11), none, .p (.mv (.tmp 13))⟩])
             (.cond (.tmp 11)
              .skip
              (.region [⟨(some 14), none, .p (.ibin .eql (.tmp 5) (.const (.int .i64 38)))⟩,
                 ⟨(some 11), none, .p (.mv (.tmp 14))⟩])))))
          (.cond (.tmp 11)
           (.seq
            (.region [⟨(some 2), none, .p (.mv (.const (.int .i64 1)))⟩,
               ⟨(some 3), none, .p (.mv (.const (.bool false)))⟩,
               ⟨(some 4), none, .p (.mv (.const (.bool true)))⟩])
            .ret)
           (.seq
            (.region [⟨(some 16), none, .p (.ibin .eql (.tmp 5) (.const (.int .i64 45)))⟩,
               ⟨(some 15), none, .p (.mv (.tmp 16))⟩])
            (.cond (.tmp 15)
             (.seq
              (.region [⟨(some 2), none, .p (.mv (.const (.int .i64 2)))⟩,
                 ⟨(some 3), none, .p (.mv (.const (.bool false)))⟩,
                 ⟨(some 4), none, .p (.mv (.const (.bool true)))⟩])
              .ret)
             (.seq
              (.region [⟨(some 18), none, .p (.ibin .eql (.tmp 5) (.const (.int .i64 47)))⟩,
                 ⟨(some 17), none, .p (.mv (.tmp 18))⟩])
              (.cond (.tmp 17)
               (.seq
                (.region [⟨(some 2), none, .p (.mv (.const (.int .i64 0)))⟩,
                   ⟨(some 3), none, .p (.mv (.const (.bool false)))⟩,
                   ⟨(some 4), none, .p (.mv (.const (.bool false)))⟩])
                .ret)
               (.seq
                (.seq
                 (.region [⟨(some 20), none, .p (.ibin .eql (.tmp 5) (.const (.int .i64 24)))⟩,
                    ⟨(some 19), none, .p (.mv (.tmp 20))⟩])
                 (.cond (.tmp 19)
                  .skip
                  (.seq
                   (.region [⟨(some 21), none, .p (.ibin .eql (.tmp 5) (.const (.int .i64 39)))⟩,
                      ⟨(some 19), none, .p (.mv (.tmp 21))⟩])
                   (.cond (.tmp 19)
                    .skip
                    (.seq
                     (.region [⟨(some 22), none, .p (.ibin .eql (.tmp 5) (.const (.int .i64 44)))⟩,
                        ⟨(some 19), none, .p (.mv (.tmp 22))⟩])
                     (.cond (.tmp 19)
                      .skip
                      (.seq
                       (.region [⟨(some 23), none, .p (.ibin .eql (.tmp 5) (.const (.int .i64 46)))⟩,
                          ⟨(some 19), none, .p (.mv (.tmp 23))⟩])
                       (.cond (.tmp 19)
                        .skip
                        (.seq
                         (.region [⟨(some 24), none, .p (.ibin .eql (.tmp 5) (.const (.int .i64 48)))⟩,
                            ⟨(some 19), none, .p (.mv (.tmp 24))⟩])
                         (.cond (.tmp 19)
                          .skip
                          (.region [⟨(some 25), none, .p (.ibin .eql (.tmp 5) (.const (.int .i64 52)))⟩,
                             ⟨(some 19), none, .p (.mv (.tmp 25))⟩])))))))))))
                (.cond (.tmp 19)
                 (.seq
                  (.region [⟨(some 2), none, .p (.mv (.const (.int .i64 1)))⟩,
                     ⟨(some 3), none, .p (.mv (.const (.bool false)))⟩,
                     ⟨(some 4), none, .p (.mv (.const (.bool false)))⟩])
                  .ret)
                 (.seq
                  (.seq
                   (.region [⟨(some 27), none, .p (.ibin .eql (.tmp 5) (.const (.int .i64 2)))⟩,
                      ⟨(some 26), none, .p (.mv (.tmp 27))⟩])
                   (.cond (.tmp 26)
                    .skip
                    (.seq
                     (.region [⟨(some 28), none, .p (.ibin .eql (.tmp 5) (.const (.int .i64 21)))⟩,
                        ⟨(some 26), none, .p (.mv (.tmp 28))⟩])
                     (.cond (.tmp 26)
                      .skip
                      (.seq
                       (.region [⟨(some 29), none, .p (.ibin .eql (.tmp 5) (.const (.int .i64 22)))⟩,
                          ⟨(some 26), none, .p (.mv (.tmp 29))⟩])
                       (.cond (.tmp 26)
                        .skip
                        (.seq
                         (.region [⟨(some 30), none, .p (.ibin .eql (.tmp 5) (.const (.int .i64 25)))⟩,
                            ⟨(some 26), none, .p (.mv (.tmp 30))⟩])
                         (.cond (.tmp 26)
                          .skip
                          (.seq
                           (.region [⟨(some 31), none, .p (.ibin .eql (.tmp 5) (.const (.int .i64 26)))⟩,
                              ⟨(some 26), none, .p (.mv (.tmp 31))⟩])
                           (.cond (.tmp 26)
                            .skip
                            (.seq
                             (.region [⟨(some 32), none, .p (.ibin .eql (.tmp 5) (.const (.int .i64 28)))⟩,
                                ⟨(some 26), none, .p (.mv (.tmp 32))⟩])
                             (.cond (.tmp 26)
                              .skip
                              (.seq
                               (.region [⟨(some 33), none, .p (.ibin .eql (.tmp 5) (.const (.int .i64 33)))⟩,
                                  ⟨(some 26), none, .p (.mv (.tmp 33))⟩])
                               (.cond (.tmp 26)
                                .skip
                                (.seq
                                 (.region [⟨(some 34), none, .p (.ibin .eql (.tmp 5) (.const (.int .i64 34)))⟩,
                                    ⟨(some 26), none, .p (.mv (.tmp 34))⟩])
                                 (.cond (.tmp 26)
                                  .skip
                                  (.seq
                                   (.region [⟨(some 35), none, .p (.ibin .eql (.tmp 5) (.const (.int .i64 40)))⟩,
                                      ⟨(some 26), none, .p (.mv (.tmp 35))⟩])
                                   (.cond (.tmp 26)
                                    .skip
                                    (.seq
                                     (.region [⟨(some 36), none, .p (.ibin .eql (.tmp 5) (.const (.int .i64 42)))⟩,
                                        ⟨(some 26), none, .p (.mv (.tmp 36))⟩])
                                     (.cond (.tmp 26)
                                      .skip
                                      (.seq
                                       (.region [⟨(some 37), none, .p (.ibin .eql (.tmp 5) (.const (.int .i64 49)))⟩,
                                          ⟨(some 26), none, .p (.mv (.tmp 37))⟩])
                                       (.cond (.tmp 26)
                                        .skip
                                        (.seq
                                         (.region [⟨(some 38), none, .p (.ibin .eql (.tmp 5) (.const (.int .i64 50)))⟩,
                                            ⟨(some 26), none, .p (.mv (.tmp 38))⟩])
                                         (.cond (.tmp 26)
                                          .skip
                                          (.region [⟨(some 39), none, .p (.ibin .eql (.tmp 5) (.const (.int .i64 51)))⟩,
                                             ⟨(some 26), none, .p (.mv (.tmp 39))⟩])))))))))))))))))))))))))
                  (.cond (.tmp 26)
                   (.seq
                    (.region [⟨(some 2), none, .p (.mv (.const (.int .i64 2)))⟩,
                       ⟨(some 3), none, .p (.mv (.const (.bool false)))⟩,
                       ⟨(some 4), none, .p (.mv (.const (.bool false)))⟩])
                    .ret)
                   .skip))))))))))))))))
   (.seq
    (.region [⟨(some 2), none, .p (.mv (.const (.int .i64 3)))⟩,
       ⟨(some 3), none, .p (.mv (.const (.bool false)))⟩,
       ⟨(some 4), none, .p (.mv (.const (.bool false)))⟩])
    .ret))), [.tmp 2, .tmp 3, .tmp 4]⟩
theorem comp61 : compFunc Try.prog 61 = some a61 := by kernel_rfl
theorem callable61 : callable Try.prog 61 = true := by kernel_rfl

/-- treadle/verify.number -/
def a63 : AFunc := ⟨1, (.seq
  (.region [⟨(some 2), none, .p (.mv (.const (.bool false)))⟩])
  (.seq
   (.region [⟨(some 3), none, .p (.mv (.tmp 0))⟩,
      ⟨(some 4), none, .p (.ibin .eql (.tmp 3) (.const (.int .i64 0)))⟩,
      ⟨(some 5), none, .p (.mv (.tmp 4))⟩,
      ⟨(some 6), (some (5, false)), .p (.mv (.tmp 0))⟩,
      ⟨(some 7), (some (5, false)), .p (.ibin .eql (.tmp 6) (.const (.int .i64 1)))⟩,
      ⟨(some 8), none, .p (.pick (.tmp 5) (.const (.bool true)) (.tmp 7))⟩,
      ⟨(some 2), none, .p (.mv (.tmp 8))⟩])
   .ret)), [.tmp 2]⟩
theorem comp63 : compFunc Try.prog 63 = some a63 := by kernel_rfl
theorem callable63 : callable Try.prog 63 = true := by kernel_rfl

/-- (*treadle/verify.checker).are -/
def a65 : AFunc := ⟨2, (.seq
  (.region [⟨(some 4), none, .p (.mv (.const (.int .i64 0)))⟩])
  (.seq
   (.seq
    (.region [⟨(some 5), none, .p (.mv (.const (.int .i64 0)))⟩])
    (.block 0
     (.loop
      (.seq
       (.seq
        (.region [⟨(some 11), none, .p (.mv (.tmp 5))⟩,
           ⟨(some 12), none, .p (.mv (.tmp 1))⟩,
           ⟨(some 13), none, .p (.len false (.tmp 12))⟩,
           ⟨(some 14), none, .p (.ibin .lss (.tmp 11) (.tmp 13))⟩])
        (.cond (.tmp 14)
         .skip
         (.exit 0)))
       (.seq
        (.block 1
         (.seq
          (.region [⟨(some 18), none, .p (.mv (.tmp 0))⟩,
             ⟨(some 19), none, .p (.mv (.tmp 1))⟩,
             ⟨(some 20), none, .p (.mv (.tmp 5))⟩,
             ⟨(some 21), none, .p (.idxSl 1 (.tmp 19) (.tmp 20))⟩,
             ⟨(some 22), none, .r1 (.tmp 21)⟩,
             ⟨(some 23), none, .w (.call 84 [(.tmp 18), (.tmp 22)])⟩,
             ⟨(some 17), none, .p (.mv (.tmp 23))⟩,
             ⟨(some 24), none, .p (.extract 0 (.tmp 17))⟩,
             ⟨(some 25), none, .p (.extract 1 (.tmp 17))⟩,
             ⟨(some 6), none, .p (.mv (.tmp 24))⟩,
             ⟨(some 7), none, .p (.mv (.tmp 25))⟩])
          (.seq
           (.region [⟨(some 26), none, .p (.mv (.tmp 7))⟩,
              ⟨(some 27), none, .p (.not (.tmp 26))⟩])
           (.cond (.tmp 27)
            (.seq
             (.region [⟨(some 4), none, .p (.mv (.const (.int .i64 11)))⟩])
             .ret)
            .skip))))
        (.region [⟨(some 15), none, .p (.mv (.tmp 5))⟩,
           ⟨(some 16), none, .p (.ibin .add (.tmp 15) (.const (.int .i64 2)))⟩,
           ⟨(some 5), none, .p (.mv (.tmp 16))⟩]))))))
   (.seq
    (.seq
     (.region [⟨(some 8), none, .p (.mv (.const (.int .i64 0)))⟩])
     (.block 2
      (.loop
       (.seq
        (.seq
         (.region [⟨(some 28), none, .p (.mv (.tmp 8))⟩,
            ⟨(some 29), none, .p (.mv (.tmp 1))⟩,
            ⟨(some 30), none, .p (.len false (.tmp 29))⟩,
            ⟨(some 31), none, .p (.ibin .lss (.tmp 28) (.tmp 30))⟩])
         (.cond (.tmp 31)
          .skip
          (.exit 2)))
        (.seq
         (.block 3
          (.seq
           (.region [⟨(some 35), none, .p (.mv (.tmp 0))⟩,
              ⟨(some 36), none, .p (.mv (.tmp 1))⟩,
              ⟨(some 37), none, .p (.mv (.tmp 8))⟩,
              ⟨(some 38), none, .p (.idxSl 1 (.tmp 36) (.tmp 37))⟩,
              ⟨(some 39), none, .r1 (.tmp 38)⟩,
              ⟨(some 40), none, .w (.call 84 [(.tmp 35), (.tmp 39)])⟩,
              ⟨(some 34), none, .p (.mv (.tmp 40))⟩,
              ⟨(some 41), none, .p (.extract 0 (.tmp 34))⟩,
              ⟨(some 42), none, .p (.extract 1 (.tmp 34))⟩,
              ⟨(some 9), none, .p (.mv (.tmp 41))⟩,
              ⟨(some 10), none, .p (.mv (.tmp 42))⟩])
           (.seq
            (.region [⟨(some 43), none, .p (.mv (.tmp 9))⟩,
               ⟨(some 44), none, .p (.mv (.tmp 1))⟩,
               ⟨(some 45), none, .p (.mv (.tmp 8))⟩,
               ⟨(some 46), none, .p (.ibin .add (.tmp 45) (.const (.int .i64 1)))⟩,
               ⟨(some 47), none, .p (.idxSl 1 (.tmp 44) (.tmp 46))⟩,
               ⟨(some 48), none, .r1 (.tmp 47)⟩,
               ⟨(some 49), none, .p (.ibin .neq (.tmp 43) (.tmp 48))⟩])
            (.cond (.tmp 49)
             (.seq
              (.region [⟨(some 4), none, .p (.mv (.const (.int .i64 10)))⟩])
              .ret)
             .skip))))
         (.region [⟨(some 32), none, .p (.mv (.tmp 8))⟩,
            ⟨(some 33), none, .p (.ibin .add (.tmp 32) (.const (.int .i64 2)))⟩,
            ⟨(some 8), none, .p (.mv (.tmp 33))⟩]))))))
    (.seq
     (.region [⟨(some 4), none, .p (.mv (.const (.int .i64 0)))⟩])
     .ret)))), [.tmp 4]⟩
theorem comp65 : compFunc Try.prog 65 = some a65 := by kernel_rfl
theorem callable65 : callable Try.prog 65 = true := by kernel_rfl

/-- (*treadle/verify.checker).memory -/
def a67 : AFunc := ⟨2, (.seq
  (.region [⟨(some 3), none, .w (.box 38 (.tmp 1))⟩,
     ⟨(some 4), none, .p (.mv (.const (.int .i64 0)))⟩])
  (.seq
   (.seq
    (.region [⟨(some 14), none, .p (.fieldA 0 (.tmp 3))⟩,
       ⟨(some 15), none, .r1 (.tmp 14)⟩])
    (.block 0
     (.seq
      (.seq
       (.region [⟨(some 17), none, .p (.ibin .eql (.tmp 15) (.const (.int .i64 26)))⟩,
          ⟨(some 16), none, .p (.mv (.tmp 17))⟩])
       (.cond (.tmp 16)
        .skip
        (.region [⟨(some 18), none, .p (.ibin .eql (.tmp 15) (.const (.int .i64 27)))⟩,
           ⟨(some 16), none, .p (.mv (.tmp 18))⟩])))
      (.cond (.tmp 16)
       (.seq
        (.seq
         (.draw [⟨0, ⟨(some 19), none, .p (.fieldA 2 (.tmp 3))⟩, []⟩,
            ⟨1, ⟨(some 20), none, .r1 (.tmp 19)⟩, []⟩,
            ⟨2, ⟨(some 21), none, .p (.mv (.tmp 0))⟩, []⟩,
            ⟨3, ⟨(some 22), none, .p (.nilck (.tmp 21))⟩, []⟩,
            ⟨4, ⟨(some 23), none, .p (.fieldA 0 (.tmp 22))⟩, []⟩,
            ⟨5, ⟨(some 24), none, .p (.fieldA 0 (.tmp 23))⟩, []⟩,
            ⟨6, ⟨(some 25), none, .r1 (.tmp 24)⟩, []⟩,
            ⟨7, ⟨(some 26), none, .p (.len false (.tmp 25))⟩, []⟩,
            ⟨8, ⟨(some 27), none, .p (.ibin .geq (.tmp 20) (.tmp 26))⟩, []⟩,
            ⟨9, ⟨(some 28), none, .p (.mv (.tmp 27))⟩, []⟩,
            ⟨10, ⟨(some 29), (some (28, false)), .p (.fieldA 2 (.tmp 3))⟩, []⟩,
            ⟨11, ⟨(some 30), (some (28, false)), .r1 (.tmp 29)⟩, []⟩,
            ⟨12, ⟨(some 31), (some (28, false)), .p (.ibin .lss (.tmp 30) (.const (.int .i64 0)))⟩, []⟩,
            ⟨13, ⟨(some 32), none, .p (.pick (.tmp 28) (.const (.bool true)) (.tmp 31))⟩, []⟩,
            ⟨14, ⟨(some 33), none, .p (.mv (.tmp 32))⟩, []⟩,
            ⟨15, ⟨(some 34), (some (33, false)), .p (.mv (.tmp 0))⟩, []⟩,
            ⟨16, ⟨(some 35), (some (33, false)), .p (.nilck (.tmp 34))⟩, []⟩,
            ⟨17, ⟨(some 36), (some (33, false)), .p (.fieldA 0 (.tmp 35))⟩, []⟩,
            ⟨18, ⟨(some 37), (some (33, false)), .p (.fieldA 0 (.tmp 36))⟩, []⟩,
            ⟨19, ⟨(some 38), (some (33, false)), .r1 (.tmp 37)⟩, []⟩,
            ⟨20, ⟨(some 39), (some (33, false)), .p (.fieldA 2 (.tmp 3))⟩, []⟩,
            ⟨21, ⟨(some 40), (some (33, false)), .r1 (.tmp 39)⟩, []⟩,
            ⟨22, ⟨(some 41), (some (33, false)), .p (.idxSl 2 (.tmp 38) (.tmp 40))⟩, []⟩,
            ⟨23, ⟨(some 42), (some (33, false)), .p (.fieldA 0 (.tmp 41))⟩, []⟩,
            ⟨24, ⟨(some 43), (some (33, false)), .r1 (.tmp 42)⟩, []⟩,
            ⟨25, ⟨(some 44), (some (33, false)), .p (.fieldA 0 (.tmp 3))⟩, []⟩,
            ⟨26, ⟨(some 45), (some (33, false)), .r1 (.tmp 44)⟩, []⟩,
            ⟨27, ⟨(some 46), (some (33, false)), .p (.ibin .eql (.tmp 45) (.const (.int .i64 27)))⟩, []⟩,
            ⟨28, ⟨(some 47), (some (33, false)), .p (.eqb true (.tmp 43) (.tmp 46))⟩, []⟩,
            ⟨29, ⟨(some 48), none, .p (.pick (.tmp 33) (.const (.bool true)) (.tmp 47))⟩, []⟩])
         (.cond (.tmp 48)
          (.seq
           (.region [⟨(some 4), none, .p (.mv (.const (.int .i64 14)))⟩])
           .ret)
          .skip))
        (.seq
         (.seq
          (.region [⟨(some 49), none, .p (.fieldA 0 (.tmp 3))⟩,
             ⟨(some 50), none, .r1 (.tmp 49)⟩,
             ⟨(some 51), none, .p (.ibin .eql (.tmp 50) (.const (.int .i64 27)))⟩])
          (.cond (.tmp 51)
           (.seq
            (.region [⟨(some 52), none, .p (.mv (.tmp 0))⟩,
               ⟨(some 53), none, .p (.fieldA 1 (.tmp 3))⟩,
               ⟨(some 54), none, .r1 (.tmp 53)⟩,
               ⟨(some 55), none, .p (.fieldA 2 (.tmp 3))⟩,
               ⟨(some 56), none, .r1 (.tmp 55)⟩,
               ⟨(some 57), none, .p (.ibin .add (.const (.int .i64 16)) (.tmp 56))⟩,
               ⟨(some 58), none, .p (.fieldA 3 (.tmp 3))⟩,
               ⟨(some 59), none, .r1 (.tmp 58)⟩,
               ⟨(some 60), none, .w (.bslice 3 4 [.int .i64 0] [(0, 1, (.tmp 54)), (1, 1, (.tmp 57)), (2, 1, (.tmp 59)), (3, 1, (.const (.int .i64 0)))])⟩,
               ⟨(some 61), none, .w (.call 65 [(.tmp 52), (.tmp 60)])⟩,
               ⟨(some 4), none, .p (.mv (.tmp 61))⟩])
            .ret)
           .skip))
         (.seq
          (.region [⟨(some 62), none, .p (.mv (.tmp 0))⟩,
             ⟨(some 63), none, .p (.fieldA 1 (.tmp 3))⟩,
             ⟨(some 64), none, .r1 (.tmp 63)⟩,
             ⟨(some 65), none, .p (.fieldA 2 (.tmp 3))⟩,
             ⟨(some 66), none, .r1 (.tmp 65)⟩,
             ⟨(some 67), none, .p (.ibin .add (.const (.int .i64 16)) (.tmp 66))⟩,
             ⟨(some 68), none, .w (.bslice 3 2 [.int .i64 0] [(0, 1, (.tmp 64)), (1, 1, (.tmp 67))])⟩,
             ⟨(some 69), none, .w (.call 65 [(.tmp 62), (.tmp 68)])⟩,
             ⟨(some 4), none, .p (.mv (.tmp 69))⟩])
          .ret)))
       (.seq
        (.region [⟨(some 71), none, .p (.ibin .eql (.tmp 15) (.const (.int .i64 28)))⟩,
           ⟨(some 70), none, .p (.mv (.tmp 71))⟩])
        (.cond (.tmp 70)
         (.seq
          (.seq
           (.region [⟨(some 73), none, .p (.mv (.tmp 0))⟩,
              ⟨(some 74), none, .p (.fieldA 2 (.tmp 3))⟩,
              ⟨(some 75), none, .r1 (.tmp 74)⟩,
              ⟨(some 76), none, .w (.call 85 [(.tmp 73), (.tmp 75), (.const (.bool true))])⟩,
              ⟨(some 72), none, .p (.mv (.tmp 76))⟩,
              ⟨(some 77), none, .p (.extract 0 (.tmp 72))⟩,
              ⟨(some 78), none, .p (.extract 1 (.tmp 72))⟩,
              ⟨(some 5), none, .w (.alloc 61 [.bool false, .slice none 0 0])⟩,
              ⟨none, none, .w (.stN 2 (.tmp 5) (.tmp 77))⟩,
              ⟨(some 6), none, .p (.mv (.tmp 78))⟩])
           (.seq
            (.region [⟨(some 79), none, .p (.mv (.tmp 6))⟩,
               ⟨(some 80), none, .p (.ibin .neq (.tmp 79) (.const (.int .i64 0)))⟩])
            (.cond (.tmp 80)
             (.seq
              (.region [⟨(some 81), none, .p (.mv (.tmp 6))⟩,
                 ⟨(some 4), none, .p (.mv (.tmp 81))⟩])
              .ret)
             .skip)))
          (.seq
           (.region [⟨(some 82), none, .p (.mv (.tmp 0))⟩,
              ⟨(some 83), none, .p (.fieldA 1 (.tmp 3))⟩,
              ⟨(some 84), none, .r1 (.tmp 83)⟩,
              ⟨(some 85), none, .w (.bslice 3 2 [.int .i64 0] [(0, 1, (.tmp 84)), (1, 1, (.const (.int .i64 0)))])⟩,
              ⟨(some 86), none, .w (.call 65 [(.tmp 82), (.tmp 85)])⟩,
              ⟨(some 4), none, .p (.mv (.tmp 86))⟩])
           .ret))
         (.seq
          (.seq
           (.region [⟨(some 88), none, .p (.ibin .eql (.tmp 15) (.const (.int .i64 33)))⟩,
              ⟨(some 87), none, .p (.mv (.tmp 88))⟩])
           (.cond (.tmp 87)
            .skip
            (.region [⟨(some 89), none, .p (.ibin .eql (.tmp 15) (.const (.int .i64 34)))⟩,
               ⟨(some 87), none, .p (.mv (.tmp 89))⟩])))
          (.cond (.tmp 87)
           (.seq
            (.draw [⟨0, ⟨(some 90), none, .p (.fieldA 1 (.tmp 3))⟩, []⟩,
               ⟨1, ⟨(some 91), none, .r1 (.tmp 90)⟩, []⟩,
               ⟨2, ⟨(some 92), none, .p (.fieldA 2 (.tmp 3))⟩, []⟩,
               ⟨3, ⟨(some 93), none, .r1 (.tmp 92)⟩, []⟩,
               ⟨4, ⟨(some 7), none, .p (.mv (.tmp 91))⟩, []⟩,
               ⟨5, ⟨(some 8), none, .p (.mv (.tmp 93))⟩, []⟩])
            (.seq
             (.seq
              (.region [⟨(some 94), none, .p (.fieldA 0 (.tmp 3))⟩,
                 ⟨(some 95), none, .r1 (.tmp 94)⟩,
                 ⟨(some 96), none, .p (.ibin .eql (.tmp 95) (.const (.int .i64 34)))⟩])
              (.cond (.tmp 96)
               (.draw [⟨0, ⟨(some 97), none, .p (.fieldA 2 (.tmp 3))⟩, []⟩,
                  ⟨1, ⟨(some 98), none, .r1 (.tmp 97)⟩, []⟩,
                  ⟨2, ⟨(some 99), none, .p (.fieldA 1 (.tmp 3))⟩, []⟩,
                  ⟨3, ⟨(some 100), none, .r1 (.tmp 99)⟩, []⟩,
                  ⟨4, ⟨(some 7), none, .p (.mv (.tmp 98))⟩, []⟩,
                  ⟨5, ⟨(some 8), none, .p (.mv (.tmp 100))⟩, []⟩])
               .skip))
             (.seq
              (.seq
               (.region [⟨(some 101), none, .p (.mv (.tmp 8))⟩,
                  ⟨(some 102), none, .p (.ibin .lss (.tmp 101) (.const (.int .i64 0)))⟩,
                  ⟨(some 103), none, .p (.mv (.tmp 102))⟩,
                  ⟨(some 104), (some (103, false)), .p (.mv (.tmp 8))⟩,
                  ⟨(some 105), (some (103, false)), .p (.mv (.tmp 0))⟩,
                  ⟨(some 106), (some (103, false)), .p (.nilck (.tmp 105))⟩,
                  ⟨(some 107), (some (103, false)), .p (.fieldA 0 (.tmp 106))⟩,
                  ⟨(some 108), (some (103, false)), .p (.fieldA 1 (.tmp 107))⟩,
                  ⟨(some 109), (some (103, false)), .r1 (.tmp 108)⟩,
                  ⟨(some 110), (some (103, false)), .p (.len false (.tmp 109))⟩,
                  ⟨(some 111), (some (103, false)), .p (.ibin .geq (.tmp 104) (.tmp 110))⟩,
                  ⟨(some 112), none, .p (.pick (.tmp 103) (.const (.bool true)) (.tmp 111))⟩])
               (.cond (.tmp 112)
                (.seq
                 (.region [⟨(some 4), none, .p (.mv (.const (.int .i64 15)))⟩])
                 .ret)
                .skip))
              (.seq
               (.region [⟨(some 113), none, .p (.mv (.tmp 0))⟩,
                  ⟨(some 114), none, .p (.mv (.tmp 7))⟩,
                  ⟨(some 115), none, .p (.mv (.tmp 0))⟩,
                  ⟨(some 116), none, .p (.nilck (.tmp 115))⟩,
                  ⟨(some 117), none, .p (.fieldA 0 (.tmp 116))⟩,
                  ⟨(some 118), none, .p (.fieldA 1 (.tmp 117))⟩,
                  ⟨(some 119), none, .r1 (.tmp 118)⟩,
                  ⟨(some 120), none, .p (.mv (.tmp 8))⟩,
                  ⟨(some 121), none, .p (.idxSl 1 (.tmp 119) (.tmp 120))⟩,
                  ⟨(some 122), none, .r1 (.tmp 121)⟩,
                  ⟨(some 123), none, .w (.bslice 3 2 [.int .i64 0] [(0, 1, (.tmp 114)), (1, 1, (.tmp 122))])⟩,
                  ⟨(some 124), none, .w (.call 65 [(.tmp 113), (.tmp 123)])⟩,
                  ⟨(some 4), none, .p (.mv (.tmp 124))⟩])
               .ret))))
           .skip))))))))
   (.seq
    (.draw [⟨0, ⟨(some 125), none, .p (.fieldA 2 (.tmp 3))⟩, []⟩,
       ⟨1, ⟨(some 126), none, .r1 (.tmp 125)⟩, []⟩,
       ⟨2, ⟨(some 127), none, .p (.fieldA 1 (.tmp 3))⟩, []⟩,
       ⟨3, ⟨(some 128), none, .r1 (.tmp 127)⟩, []⟩,
       ⟨4, ⟨(some 129), none, .p (.fieldA 0 (.tmp 3))⟩, []⟩,
       ⟨5, ⟨(some 130), none, .r1 (.tmp 129)⟩, []⟩,
       ⟨6, ⟨(some 131), none, .p (.ibin .eql (.tmp 130) (.const (.int .i64 31)))⟩, []⟩,
       ⟨7, ⟨(some 132), none, .p (.mv (.tmp 131))⟩, []⟩,
       ⟨8, ⟨(some 133), (some (132, false)), .p (.fieldA 0 (.tmp 3))⟩, []⟩,
       ⟨9, ⟨(some 134), (some (132, false)), .r1 (.tmp 133)⟩, []⟩,
       ⟨10, ⟨(some 135), (some (132, false)), .p (.ibin .eql (.tmp 134) (.const (.int .i64 32)))⟩, []⟩,
       ⟨11, ⟨(some 136), none, .p (.pick (.tmp 132) (.const (.bool true)) (.tmp 135))⟩, []⟩,
       ⟨12, ⟨(some 9), none, .p (.mv (.tmp 126))⟩, []⟩,
       ⟨13, ⟨(some 10), none, .p (.mv (.tmp 128))⟩, []⟩,
       ⟨14, ⟨(some 11), none, .p (.mv (.tmp 136))⟩, []⟩])
    (.seq
     (.seq
      (.region [⟨(some 137), none, .p (.fieldA 0 (.tmp 3))⟩,
         ⟨(some 138), none, .r1 (.tmp 137)⟩,
         ⟨(some 139), none, .p (.ibin .eql (.tmp 138) (.const (.int .i64 30)))⟩,
         ⟨(some 140), none, .p (.mv (.tmp 139))⟩,
         ⟨(some 141), (some (140, false)), .p (.fieldA 0 (.tmp 3))⟩,
         ⟨(some 142), (some (140, false)), .r1 (.tmp 141)⟩,
         ⟨(some 143), (some (140, false)), .p (.ibin .eql (.tmp 142) (.const (.int .i64 32)))⟩,
         ⟨(some 144), none, .p (.pick (.tmp 140) (.const (.bool true)) (.tmp 143))⟩])
      (.cond (.tmp 144)
       (.draw [⟨0, ⟨(some 145), none, .p (.fieldA 1 (.tmp 3))⟩, []⟩,
          ⟨1, ⟨(some 146), none, .r1 (.tmp 145)⟩, []⟩,
          ⟨2, ⟨(some 147), none, .p (.fieldA 2 (.tmp 3))⟩, []⟩,
          ⟨3, ⟨(some 148), none, .r1 (.tmp 147)⟩, []⟩,
          ⟨4, ⟨(some 9), none, .p (.mv (.tmp 146))⟩, []⟩,
          ⟨5, ⟨(some 10), none, .p (.mv (.tmp 148))⟩, []⟩])
       .skip))
     (.seq
      (.region [⟨(some 150), none, .p (.mv (.tmp 0))⟩,
         ⟨(some 151), none, .p (.mv (.tmp 9))⟩,
         ⟨(some 152), none, .p (.mv (.tmp 11))⟩,
         ⟨(some 153), none, .w (.call 85 [(.tmp 150), (.tmp 151), (.tmp 152)])⟩,
         ⟨(some 149), none, .p (.mv (.tmp 153))⟩,
         ⟨(some 154), none, .p (.extract 0 (.tmp 149))⟩,
         ⟨(some 155), none, .p (.extract 1 (.tmp 149))⟩,
         ⟨(some 12), none, .w (.alloc 61 [.bool false, .slice none 0 0])⟩,
         ⟨none, none, .w (.stN 2 (.tmp 12) (.tmp 154))⟩,
         ⟨(some 13), none, .p (.mv (.tmp 155))⟩])
      (.seq
       (.seq
        (.region [⟨(some 156), none, .p (.mv (.tmp 13))⟩,
           ⟨(some 157), none, .p (.ibin .neq (.tmp 156) (.const (.int .i64 0)))⟩])
        (.cond (.tmp 157)
         (.seq
          (.region [⟨(some 158), none, .p (.mv (.tmp 13))⟩,
             ⟨(some 4), none, .p (.mv (.tmp 158))⟩])
          .ret)
         .skip))
       (.seq
        (.seq
         (.region [⟨(some 159), none, .p (.mv (.tmp 11))⟩])
         (.cond (.tmp 159)
          (.seq
           (.draw [⟨0, ⟨(some 160), none, .p (.mv (.tmp 0))⟩, []⟩,
              ⟨1, ⟨(some 161), none, .p (.mv (.tmp 10))⟩, []⟩,
              ⟨2, ⟨(some 162), none, .p (.fieldA 1 (.tmp 12))⟩, []⟩,
              ⟨3, ⟨(some 163), none, .r1 (.tmp 162)⟩, []⟩,
              ⟨4, ⟨(some 164), none, .p (.idxSl 1 (.tmp 163) (.const (.int .i64 0)))⟩, []⟩,
              ⟨5, ⟨(some 165), none, .r1 (.tmp 164)⟩, []⟩,
              ⟨6, ⟨(some 166), none, .p (.fieldA 3 (.tmp 3))⟩, []⟩,
              ⟨7, ⟨(some 167), none, .r1 (.tmp 166)⟩, []⟩,
              ⟨8, ⟨(some 168), none, .w (.bslice 3 4 [.int .i64 0] [(0, 1, (.tmp 161)), (1, 1, (.tmp 165)), (2, 1, (.tmp 167)), (3, 1, (.const (.int .i64 0)))])⟩, []⟩,
              ⟨9, ⟨(some 169), none, .w (.call 65 [(.tmp 160), (.tmp 168)])⟩, []⟩,
              ⟨10, ⟨(some 4), none, .p (.mv (.tmp 169))⟩, []⟩])
           .ret)
          .skip))
        (.seq
         (.seq
          (.region [⟨(some 170), none, .p (.fieldA 3 (.tmp 3))⟩,
             ⟨(some 171), none, .r1 (.tmp 170)⟩,
             ⟨(some 172), none, .p (.ibin .lss (.tmp 171) (.const (.int .i64 0)))⟩,
             ⟨(some 173), none, .p (.mv (.tmp 172))⟩,
             ⟨(some 174), (some (173, false)), .p (.fieldA 3 (.tmp 3))⟩,
             ⟨(some 175), (some (173, false)), .r1 (.tmp 174)⟩,
             ⟨(some 176), (some (173, false)), .p (.fieldA 1 (.tmp 12))⟩,
             ⟨(some 177), (some (173, false)), .r1 (.tmp 176)⟩,
             ⟨(some 178), (some (173, false)), .p (.len false (.tmp 177))⟩,
             ⟨(some 179), (some (173, false)), .p (.ibin .geq (.tmp 175) (.tmp 178))⟩,
             ⟨(some 180), none, .p (.pick (.tmp 173) (.const (.bool true)) (.tmp 179))⟩])
          (.cond (.tmp 180)
           (.seq
            (.region [⟨(some 4), none, .p (.mv (.const (.int .i64 14)))⟩])
            .ret)
           .skip))
         (.seq
          (.region [⟨(some 181), none, .p (.mv (.tmp 0))⟩,
             ⟨(some 182), none, .p (.mv (.tmp 10))⟩,
             ⟨(some 183), none, .p (.fieldA 1 (.tmp 12))⟩,
             ⟨(some 184), none, .r1 (.tmp 183)⟩,
             ⟨(some 185), none, .p (.fieldA 3 (.tmp 3))⟩,
             ⟨(some 186), none, .r1 (.tmp 185)⟩,
             ⟨(some 187), none, .p (.idxSl 1 (.tmp 184) (.tmp 186))⟩,
             ⟨(some 188), none, .r1 (.tmp 187)⟩,
             ⟨(some 189), none, .w (.bslice 3 2 [.int .i64 0] [(0, 1, (.tmp 182)), (1, 1, (.tmp 188))])⟩,
             ⟨(some 190), none, .w (.call 65 [(.tmp 181), (.tmp 189)])⟩,
             ⟨(some 4), none, .p (.mv (.tmp 190))⟩])
          .ret))))))))), [.tmp 4]⟩
theorem comp67 : compFunc Try.prog 67 = some a67 := by kernel_rfl
theorem callable67 : callable Try.prog 67 = true := by kernel_rfl

/-- (*treadle/verify.checker).channels -/
def a69 : AFunc := ⟨2, (.seq
  (.region [⟨(some 3), none, .w (.box 38 (.tmp 1))⟩,
     ⟨(some 4), none, .p (.mv (.const (.int .i64 0)))⟩])
  (.seq
   (.draw [⟨0, ⟨(some 11), none, .p (.fieldA 1 (.tmp 3))⟩, []⟩,
      ⟨1, ⟨(some 12), none, .r1 (.tmp 11)⟩, []⟩,
      ⟨2, ⟨(some 13), none, .p (.fieldA 2 (.tmp 3))⟩, []⟩,
      ⟨3, ⟨(some 14), none, .r1 (.tmp 13)⟩, []⟩,
      ⟨4, ⟨(some 5), none, .p (.mv (.tmp 12))⟩, []⟩,
      ⟨5, ⟨(some 6), none, .p (.mv (.tmp 14))⟩, []⟩])
   (.seq
    (.seq
     (.region [⟨(some 15), none, .p (.fieldA 0 (.tmp 3))⟩,
        ⟨(some 16), none, .r1 (.tmp 15)⟩])
     (.block 0
      (.seq
       (.seq
        (.region [⟨(some 18), none, .p (.ibin .eql (.tmp 16) (.const (.int .i64 41)))⟩,
           ⟨(some 17), none, .p (.mv (.tmp 18))⟩])
        (.cond (.tmp 17)
         .skip
         (.region [⟨(some 19), none, .p (.ibin .eql (.tmp 16) (.const (.int .i64 44)))⟩,
            ⟨(some 17), none, .p (.mv (.tmp 19))⟩])))
       (.cond (.tmp 17)
        (.seq
         (.seq
          (.region [⟨(some 20), none, .p (.fieldA 4 (.tmp 3))⟩,
             ⟨(some 21), none, .r1 (.tmp 20)⟩,
             ⟨(some 22), none, .p (.ibin .gtr (.tmp 21) (.const (.int .u64 16)))⟩])
          (.cond (.tmp 22)
           (.seq
            (.region [⟨(some 4), none, .p (.mv (.const (.int .i64 16)))⟩])
            .ret)
           .skip))
         (.seq
          (.region [⟨(some 24), none, .p (.mv (.tmp 0))⟩,
             ⟨(some 25), none, .p (.fieldA 1 (.tmp 3))⟩,
             ⟨(some 26), none, .r1 (.tmp 25)⟩,
             ⟨(some 27), none, .w (.call 87 [(.tmp 24), (.tmp 26)])⟩,
             ⟨(some 23), none, .p (.mv (.tmp 27))⟩,
             ⟨(some 28), none, .p (.extract 0 (.tmp 23))⟩,
             ⟨(some 29), none, .p (.extract 1 (.tmp 23))⟩,
             ⟨(some 7), none, .p (.mv (.tmp 28))⟩,
             ⟨(some 8), none, .p (.mv (.tmp 29))⟩])
          (.seq
           (.region [⟨(some 30), none, .p (.mv (.tmp 8))⟩,
              ⟨(some 4), none, .p (.mv (.tmp 30))⟩])
           .ret)))
        (.seq
         (.region [⟨(some 32), none, .p (.ibin .eql (.tmp 16) (.const (.int .i64 43)))⟩,
            ⟨(some 31), none, .p (.mv (.tmp 32))⟩])
         (.cond (.tmp 31)
          (.draw [⟨0, ⟨(some 33), none, .p (.fieldA 2 (.tmp 3))⟩, []⟩,
             ⟨1, ⟨(some 34), none, .r1 (.tmp 33)⟩, []⟩,
             ⟨2, ⟨(some 35), none, .p (.fieldA 1 (.tmp 3))⟩, []⟩,
             ⟨3, ⟨(some 36), none, .r1 (.tmp 35)⟩, []⟩,
             ⟨4, ⟨(some 5), none, .p (.mv (.tmp 34))⟩, []⟩,
             ⟨5, ⟨(some 6), none, .p (.mv (.tmp 36))⟩, []⟩])
          (.seq
           (.region [⟨(some 38), none, .p (.ibin .eql (.tmp 16) (.const (.int .i64 45)))⟩,
              ⟨(some 37), none, .p (.mv (.tmp 38))⟩])
           (.cond (.tmp 37)
            (.seq
             (.region [⟨(some 39), none, .p (.mv (.tmp 0))⟩,
                ⟨(some 40), none, .rN 6 (.tmp 3)⟩,
                ⟨(some 41), none, .w (.call 88 [(.tmp 39), (.tmp 40)])⟩,
                ⟨(some 4), none, .p (.mv (.tmp 41))⟩])
             .ret)
            .skip))))))))
    (.seq
     (.region [⟨(some 43), none, .p (.mv (.tmp 0))⟩,
        ⟨(some 44), none, .p (.mv (.tmp 5))⟩,
        ⟨(some 45), none, .w (.call 87 [(.tmp 43), (.tmp 44)])⟩,
        ⟨(some 42), none, .p (.mv (.tmp 45))⟩,
        ⟨(some 46), none, .p (.extract 0 (.tmp 42))⟩,
        ⟨(some 47), none, .p (.extract 1 (.tmp 42))⟩,
        ⟨(some 9), none, .p (.mv (.tmp 46))⟩,
        ⟨(some 10), none, .p (.mv (.tmp 47))⟩])
     (.seq
      (.seq
       (.region [⟨(some 48), none, .p (.mv (.tmp 10))⟩,
          ⟨(some 49), none, .p (.ibin .neq (.tmp 48) (.const (.int .i64 0)))⟩])
       (.cond (.tmp 49)
        (.seq
         (.region [⟨(some 50), none, .p (.mv (.tmp 10))⟩,
            ⟨(some 4), none, .p (.mv (.tmp 50))⟩])
         .ret)
        .skip))
      (.seq
       (.seq
        (.region [⟨(some 51), none, .p (.fieldA 0 (.tmp 3))⟩,
           ⟨(some 52), none, .r1 (.tmp 51)⟩,
           ⟨(some 53), none, .p (.ibin .eql (.tmp 52) (.const (.int .i64 43)))⟩])
        (.cond (.tmp 53)
         (.seq
          (.region [⟨(some 54), none, .p (.mv (.tmp 0))⟩,
             ⟨(some 55), none, .p (.mv (.tmp 6))⟩,
             ⟨(some 56), none, .p (.mv (.tmp 9))⟩,
             ⟨(some 57), none, .p (.fieldA 3 (.tmp 3))⟩,
             ⟨(some 58), none, .r1 (.tmp 57)⟩,
             ⟨(some 59), none, .w (.bslice 3 4 [.int .i64 0] [(0, 1, (.tmp 55)), (1, 1, (.tmp 56)), (2, 1, (.tmp 58)), (3, 1, (.const (.int .i64 0)))])⟩,
             ⟨(some 60), none, .w (.call 65 [(.tmp 54), (.tmp 59)])⟩,
             ⟨(some 4), none, .p (.mv (.tmp 60))⟩])
          .ret)
         .skip))
       (.seq
        (.region [⟨(some 61), none, .p (.mv (.tmp 0))⟩,
           ⟨(some 62), none, .p (.mv (.tmp 6))⟩,
           ⟨(some 63), none, .p (.mv (.tmp 9))⟩,
           ⟨(some 64), none, .w (.bslice 3 2 [.int .i64 0] [(0, 1, (.tmp 62)), (1, 1, (.tmp 63))])⟩,
           ⟨(some 65), none, .w (.call 65 [(.tmp 61), (.tmp 64)])⟩,
           ⟨(some 4), none, .p (.mv (.tmp 65))⟩])
        .ret))))))), [.tmp 4]⟩
theorem comp69 : compFunc Try.prog 69 = some a69 := by kernel_rfl
theorem callable69 : callable Try.prog 69 = true := by kernel_rfl

/-- treadle/ideal.bit -/
def a71 : AFunc := ⟨1, (.seq
  (.region [⟨(some 2), none, .p (.mv (.const (.int .u64 0)))⟩])
  (.seq
   (.seq
    (.region [⟨(some 3), none, .p (.mv (.tmp 0))⟩])
    (.cond (.tmp 3)
     (.seq
      (.region [⟨(some 2), none, .p (.mv (.const (.int .u64 1)))⟩])
      .ret)
     .skip))
   (.seq
    (.region [⟨(some 2), none, .p (.mv (.const (.int .u64 0)))⟩])
    .ret))), [.tmp 2]⟩
theorem comp71 : compFunc Try.prog 71 = some a71 := by kernel_rfl
theorem callable71 : callable Try.prog 71 = true := by kernel_rfl

/-- treadle/flo.Less -/
def a73 : AFunc := ⟨2, (.seq
  (.region [⟨(some 4), none, .p (.mv (.const (.bool false)))⟩])
  (.seq
   (.region [⟨(some 5), none, .p (.mv (.tmp 0))⟩,
      ⟨(some 6), none, .w (.call 34 [(.tmp 5)])⟩,
      ⟨(some 7), none, .p (.mv (.tmp 1))⟩,
      ⟨(some 8), none, .w (.call 34 [(.tmp 7)])⟩,
      ⟨(some 9), none, .w (.ext (.fcmp .lss) [(.tmp 6), (.tmp 8)])⟩,
      ⟨(some 4), none, .p (.mv (.tmp 9))⟩])
   .ret)), [.tmp 4]⟩
theorem comp73 : compFunc Try.prog 73 = some a73 := by kernel_rfl
theorem callable73 : callable Try.prog 73 = true := by kernel_rfl

/-- treadle/ideal.values -/
def a75 : AFunc := ⟨2, (.seq
  (.region [⟨(some 4), none, .p (.mv (.const (.slice none 0 0)))⟩])
  (.seq
   (.region [⟨(some 5), none, .p (.mv (.const (.slice none 0 0)))⟩])
   (.seq
    (.seq
     (.region [⟨(some 8), none, .p (.mv (.tmp 1))⟩,
        ⟨(some 9), none, .p (.len false (.tmp 8))⟩,
        ⟨(some 10), none, .p (.mv (.const (.int .i64 0)))⟩])
     (.block 0
      (.loop
       (.seq
        (.region [⟨(some 11), none, .p (.ibin .lss (.tmp 10) (.tmp 9))⟩])
        (.seq
         (.cond (.tmp 11)
          .skip
          (.exit 0))
         (.seq
          (.block 1
           (.seq
            (.region [⟨(some 12), none, .p (.idxSl 1 (.tmp 8) (.tmp 10))⟩,
               ⟨(some 13), none, .r1 (.tmp 12)⟩,
               ⟨(some 7), none, .p (.mv (.tmp 13))⟩])
            (.region [⟨(some 14), none, .p (.mv (.tmp 5))⟩,
               ⟨(some 15), none, .p (.mv (.tmp 0))⟩,
               ⟨(some 16), none, .p (.mv (.tmp 7))⟩,
               ⟨(some 17), none, .p (.idxSl 1 (.tmp 15) (.tmp 16))⟩,
               ⟨(some 18), none, .r1 (.tmp 17)⟩,
               ⟨(some 19), none, .w (.bslice 35 1 [.int .u64 0] [(0, 1, (.tmp 18))])⟩,
               ⟨(some 20), none, .w (.app 35 8 [.int .u64 0] (.tmp 14) (.tmp 19))⟩,
               ⟨(some 5), none, .p (.mv (.tmp 20))⟩])))
          (.region [⟨(some 21), none, .p (.ibin .add (.tmp 10) (.const (.int .i64 1)))⟩,
             ⟨(some 10), none, .p (.mv (.tmp 21))⟩])))))))
    (.seq
     (.region [⟨(some 22), none, .p (.mv (.tmp 5))⟩,
        ⟨(some 4), none, .p (.mv (.tmp 22))⟩])
     .ret)))), [.tmp 4]⟩
theorem comp75 : compFunc Try.prog 75 = some a75 := by kernel_rfl
theorem callable75 : callable Try.prog 75 = true := by kernel_rfl

/-- treadle/chans.New -/
def a77 : AFunc := ⟨1, (.seq
  (.region [⟨(some 2), none, .p (.mv (.const (.pointer none)))⟩,
     ⟨(some 3), none, .p (.mv (.const (.int .i64 0)))⟩])
  (.seq
   (.seq
    (.region [⟨(some 4), none, .p (.mv (.tmp 0))⟩,
       ⟨(some 5), none, .p (.ibin .lss (.tmp 4) (.const (.int .i64 0)))⟩,
       ⟨(some 6), none, .p (.mv (.tmp 5))⟩,
       ⟨(some 7), (some (6, false)), .p (.mv (.tmp 0))⟩,
       ⟨(some 8), (some (6, false)), .p (.ibin .gtr (.tmp 7) (.const (.int .i64 16)))⟩,
       ⟨(some 9), none, .p (.pick (.tmp 6) (.const (.bool true)) (.tmp 8))⟩])
    (.cond (.tmp 9)
     (.seq
      (.region [⟨(some 2), none, .p (.mv (.const (.pointer none)))⟩,
         ⟨(some 3), none, .p (.mv (.const (.int .i64 1)))⟩])
      .ret)
     .skip))
   (.seq
    (.region [⟨(some 10), none, .p (.mv (.tmp 0))⟩,
       ⟨(some 11), none, .p (.build [.slice none 0 0, .int .i64 0, .bool false, .slice none 0 0, .slice none 0 0] [(1, 1, (.tmp 10))])⟩,
       ⟨(some 12), none, .w (.box 145 (.tmp 11))⟩,
       ⟨(some 2), none, .p (.mv (.tmp 12))⟩,
       ⟨(some 3), none, .p (.mv (.const (.int .i64 0)))⟩])
    .ret))), [.tmp 2, .tmp 3]⟩
theorem comp77 : compFunc Try.prog 77 = some a77 := by kernel_rfl
theorem callable77 : callable Try.prog 77 = true := by kernel_rfl

/-- (*treadle/ideal.Ideal).channel -/
def a79 : AFunc := ⟨2, (.seq
  (.region [⟨(some 4), none, .p (.mv (.const (.pointer none)))⟩])
  (.seq
   (.seq
    (.region [⟨(some 5), none, .p (.mv (.tmp 1))⟩,
       ⟨(some 6), none, .p (.ibin .eql (.tmp 5) (.const (.int .u64 0)))⟩])
    (.cond (.tmp 6)
     (.seq
      (.region [⟨(some 4), none, .p (.mv (.const (.pointer none)))⟩])
      .ret)
     .skip))
   (.seq
    (.region [⟨(some 7), none, .p (.mv (.tmp 0))⟩,
       ⟨(some 8), none, .p (.nilck (.tmp 7))⟩,
       ⟨(some 9), none, .p (.fieldA 4 (.tmp 8))⟩,
       ⟨(some 10), none, .r1 (.tmp 9)⟩,
       ⟨(some 11), none, .p (.mv (.tmp 1))⟩,
       ⟨(some 12), none, .p (.idxSl 3 (.tmp 10) (.tmp 11))⟩,
       ⟨(some 13), none, .p (.fieldA 2 (.tmp 12))⟩,
       ⟨(some 14), none, .r1 (.tmp 13)⟩,
       ⟨(some 4), none, .p (.mv (.tmp 14))⟩])
    .ret))), [.tmp 4]⟩
theorem comp79 : compFunc Try.prog 79 = some a79 := by kernel_rfl
theorem callable79 : callable Try.prog 79 = true := by kernel_rfl

/-- treadle/ideal.name -/
def a81 : AFunc := ⟨2, (.seq
  (.region [⟨(some 4), none, .p (.mv (.const (.int .i64 0)))⟩])
  (.seq
   (.region [⟨(some 5), none, .p (.mv (.tmp 0))⟩,
      ⟨(some 6), none, .p (.ibin .mul (.tmp 5) (.const (.int .i64 64)))⟩,
      ⟨(some 7), none, .p (.mv (.tmp 1))⟩,
      ⟨(some 8), none, .p (.ibin .add (.tmp 6) (.tmp 7))⟩,
      ⟨(some 9), none, .p (.ibin .add (.tmp 8) (.const (.int .i64 1)))⟩,
      ⟨(some 4), none, .p (.mv (.tmp 9))⟩])
   .ret)), [.tmp 4]⟩
theorem comp81 : compFunc Try.prog 81 = some a81 := by kernel_rfl
theorem callable81 : callable Try.prog 81 = true := by kernel_rfl

/-- (*treadle/ideal.Ideal).choose -/
def a83 : AFunc := ⟨5, (.seq
  (.region [⟨(some 8), none, .w (.box 38 (.tmp 3))⟩])
  (.seq
   (.region [⟨(some 10), none, .p (.mv (.const (.slice none 0 0)))⟩])
   (.seq
    (.seq
     (.region [⟨(some 11), none, .p (.mv (.const (.int .i64 0)))⟩])
     (.block 0
      (.loop
       (.seq
        (.seq
         (.region [⟨(some 15), none, .p (.mv (.tmp 11))⟩,
            ⟨(some 16), none, .p (.fieldA 5 (.tmp 8))⟩,
            ⟨(some 17), none, .r1 (.tmp 16)⟩,
            ⟨(some 18), none, .p (.len false (.tmp 17))⟩,
            ⟨(some 19), none, .p (.ibin .lss (.tmp 15) (.tmp 18))⟩])
         (.cond (.tmp 19)
          .skip
          (.exit 0)))
        (.seq
         (.block 1
          (.seq
           (.region [⟨(some 22), none, .p (.mv (.tmp 0))⟩,
              ⟨(some 23), none, .p (.mv (.tmp 2))⟩,
              ⟨(some 24), none, .p (.fieldA 5 (.tmp 8))⟩,
              ⟨(some 25), none, .r1 (.tmp 24)⟩,
              ⟨(some 26), none, .p (.mv (.tmp 11))⟩,
              ⟨(some 27), none, .p (.ibin .add (.tmp 26) (.const (.int .i64 1)))⟩,
              ⟨(some 28), none, .p (.idxSl 1 (.tmp 25) (.tmp 27))⟩,
              ⟨(some 29), none, .r1 (.tmp 28)⟩,
              ⟨(some 30), none, .p (.idxSl 1 (.tmp 23) (.tmp 29))⟩,
              ⟨(some 31), none, .r1 (.tmp 30)⟩,
              ⟨(some 32), none, .w (.call 79 [(.tmp 22), (.tmp 31)])⟩,
              ⟨(some 12), none, .p (.mv (.tmp 32))⟩])
           (.seq
            (.region [⟨(some 33), none, .p (.mv (.tmp 12))⟩,
               ⟨(some 34), none, .p (.eqp true (.tmp 33) (.const (.pointer none)))⟩,
               ⟨(some 35), none, .p (.mv (.tmp 34))⟩,
               ⟨(some 36), (some (35, true)), .p (.mv (.tmp 12))⟩,
               ⟨(some 37), (some (35, true)), .p (.fieldA 5 (.tmp 8))⟩,
               ⟨(some 38), (some (35, true)), .r1 (.tmp 37)⟩,
               ⟨(some 39), (some (35, true)), .p (.mv (.tmp 11))⟩,
               ⟨(some 40), (some (35, true)), .p (.idxSl 1 (.tmp 38) (.tmp 39))⟩,
               ⟨(some 41), (some (35, true)), .r1 (.tmp 40)⟩,
               ⟨(some 42), (some (35, true)), .p (.ibin .eql (.tmp 41) (.const (.int .i64 0)))⟩,
               ⟨(some 43), (some (35, true)), .w (.call 93 [(.tmp 36), (.tmp 42)])⟩,
               ⟨(some 44), none, .p (.pick (.tmp 35) (.tmp 43) (.const (.bool false)))⟩])
            (.cond (.tmp 44)
             (.region [⟨(some 45), none, .p (.mv (.tmp 10))⟩,
                ⟨(some 46), none, .p (.mv (.tmp 11))⟩,
                ⟨(some 47), none, .w (.bslice 3 1 [.int .i64 0] [(0, 1, (.tmp 46))])⟩,
                ⟨(some 48), none, .w (.app 3 8 [.int .i64 0] (.tmp 45) (.tmp 47))⟩,
                ⟨(some 10), none, .p (.mv (.tmp 48))⟩])
             .skip))))
         (.region [⟨(some 20), none, .p (.mv (.tmp 11))⟩,
            ⟨(some 21), none, .p (.ibin .add (.tmp 20) (.const (.int .i64 3)))⟩,
            ⟨(some 11), none, .p (.mv (.tmp 21))⟩]))))))
    (.seq
     (.seq
      (.region [⟨(some 49), none, .p (.mv (.tmp 10))⟩,
         ⟨(some 50), none, .p (.len false (.tmp 49))⟩,
         ⟨(some 51), none, .p (.ibin .eql (.tmp 50) (.const (.int .i64 0)))⟩,
         ⟨(some 52), none, .p (.mv (.tmp 51))⟩,
         ⟨(some 53), (some (52, true)), .p (.fieldA 2 (.tmp 8))⟩,
         ⟨(some 54), (some (52, true)), .r1 (.tmp 53)⟩,
         ⟨(some 55), (some (52, true)), .p (.ibin .eql (.tmp 54) (.const (.int .i64 1)))⟩,
         ⟨(some 56), none, .p (.pick (.tmp 52) (.tmp 55) (.const (.bool false)))⟩])
      (.cond (.tmp 56)
       (.seq
        (.region [⟨(some 57), none, .p (.mv (.tmp 2))⟩,
           ⟨(some 58), none, .p (.fieldA 1 (.tmp 8))⟩,
           ⟨(some 59), none, .r1 (.tmp 58)⟩,
           ⟨(some 60), none, .p (.idxSl 1 (.tmp 57) (.tmp 59))⟩,
           ⟨none, none, .w (.st1 (.tmp 60) (.const (.int .u64 18446744073709551615)))⟩])
        .ret)
       .skip))
     (.seq
      (.seq
       (.region [⟨(some 61), none, .p (.mv (.tmp 10))⟩,
          ⟨(some 62), none, .p (.len false (.tmp 61))⟩,
          ⟨(some 63), none, .p (.ibin .gtr (.tmp 62) (.const (.int .i64 0)))⟩])
       (.cond (.tmp 63)
        (.seq
         (.region [⟨(some 64), none, .p (.mv (.tmp 10))⟩,
            ⟨(some 65), none, .p (.mv (.tmp 4))⟩,
            ⟨(some 66), none, .p (.mv (.tmp 10))⟩,
            ⟨(some 67), none, .p (.len false (.tmp 66))⟩,
            ⟨(some 68), none, .p (.conv .u64 (.tmp 67))⟩,
            ⟨(some 69), none, .p (.ibin .rem (.tmp 65) (.tmp 68))⟩,
            ⟨(some 70), none, .p (.idxSl 1 (.tmp 64) (.tmp 69))⟩,
            ⟨(some 71), none, .r1 (.tmp 70)⟩,
            ⟨(some 13), none, .p (.mv (.tmp 71))⟩])
         (.seq
          (.region [⟨(some 72), none, .p (.mv (.tmp 0))⟩,
             ⟨(some 73), none, .p (.mv (.tmp 2))⟩,
             ⟨(some 74), none, .rN 6 (.tmp 8)⟩,
             ⟨(some 75), none, .p (.mv (.tmp 13))⟩,
             ⟨(some 76), none, .w (.call 94 [(.tmp 72), (.tmp 73), (.tmp 74), (.tmp 75), (.const (.bool false))])⟩])
          .ret))
        .skip))
      (.seq
       (.region [⟨(some 77), none, .p (.mv (.tmp 1))⟩,
          ⟨(some 78), none, .p (.nilck (.tmp 77))⟩,
          ⟨(some 79), none, .p (.fieldA 0 (.tmp 78))⟩,
          ⟨none, none, .w (.st1 (.tmp 79) (.const (.int .i64 2)))⟩])
       (.seq
        (.region [⟨(some 14), none, .p (.mv (.const (.int .i64 0)))⟩])
        (.block 2
         (.loop
          (.seq
           (.seq
            (.region [⟨(some 80), none, .p (.mv (.tmp 14))⟩,
               ⟨(some 81), none, .p (.fieldA 5 (.tmp 8))⟩,
               ⟨(some 82), none, .r1 (.tmp 81)⟩,
               ⟨(some 83), none, .p (.len false (.tmp 82))⟩,
               ⟨(some 84), none, .p (.ibin .lss (.tmp 80) (.tmp 83))⟩])
            (.cond (.tmp 84)
             .skip
             (.exit 2)))
           (.seq
            (.block 3
             (.seq
              (.region [⟨(some 87), none, .p (.mv (.tmp 0))⟩,
                 ⟨(some 88), none, .p (.mv (.tmp 2))⟩,
                 ⟨(some 89), none, .p (.fieldA 5 (.tmp 8))⟩,
                 ⟨(some 90), none, .r1 (.tmp 89)⟩,
                 ⟨(some 91), none, .p (.mv (.tmp 14))⟩,
                 ⟨(some 92), none, .p (.ibin .add (.tmp 91) (.const (.int .i64 1)))⟩,
                 ⟨(some 93), none, .p (.idxSl 1 (.tmp 90) (.tmp 92))⟩,
                 ⟨(some 94), none, .r1 (.tmp 93)⟩,
                 ⟨(some 95), none, .p (.idxSl 1 (.tmp 88) (.tmp 94))⟩,
                 ⟨(some 96), none, .r1 (.tmp 95)⟩,
                 ⟨(some 97), none, .w (.call 79 [(.tmp 87), (.tmp 96)])⟩,
                 ⟨(some 98), none, .p (.eqp true (.tmp 97) (.const (.pointer none)))⟩])
              (.cond (.tmp 98)
               (.region [⟨(some 99), none, .p (.mv (.tmp 0))⟩,
                  ⟨(some 100), none, .p (.mv (.tmp 2))⟩,
                  ⟨(some 101), none, .rN 6 (.tmp 8)⟩,
                  ⟨(some 102), none, .p (.mv (.tmp 14))⟩,
                  ⟨(some 103), none, .w (.call 94 [(.tmp 99), (.tmp 100), (.tmp 101), (.tmp 102), (.const (.bool true))])⟩])
               .skip)))
            (.region [⟨(some 85), none, .p (.mv (.tmp 14))⟩,
               ⟨(some 86), none, .p (.ibin .add (.tmp 85) (.const (.int .i64 3)))⟩,
               ⟨(some 14), none, .p (.mv (.tmp 86))⟩])))))))))))), []⟩
theorem comp83 : compFunc Try.prog 83 = some a83 := by kernel_rfl
theorem callable83 : callable Try.prog 83 = true := by kernel_rfl

/-- (*treadle/verify.checker).object -/
def a85 : AFunc := ⟨3, (.seq
  (.region [⟨(some 6), none, .w (.alloc 61 [.bool false, .slice none 0 0])⟩,
     ⟨(some 7), none, .p (.mv (.const (.int .i64 0)))⟩])
  (.seq
   (.region [⟨(some 12), none, .p (.mv (.tmp 0))⟩,
      ⟨(some 13), none, .p (.mv (.tmp 1))⟩,
      ⟨(some 14), none, .w (.call 84 [(.tmp 12), (.tmp 13)])⟩,
      ⟨(some 11), none, .p (.mv (.tmp 14))⟩,
      ⟨(some 15), none, .p (.extract 0 (.tmp 11))⟩,
      ⟨(some 16), none, .p (.extract 1 (.tmp 11))⟩,
      ⟨(some 8), none, .p (.mv (.tmp 15))⟩,
      ⟨(some 9), none, .p (.mv (.tmp 16))⟩])
   (.seq
    (.seq
     (.region [⟨(some 17), none, .p (.mv (.tmp 9))⟩,
        ⟨(some 18), none, .p (.not (.tmp 17))⟩])
     (.cond (.tmp 18)
      (.seq
       (.region [⟨(some 19), none, .p (.build [.bool false, .slice none 0 0] [])⟩,
          ⟨none, none, .w (.stN 2 (.tmp 6) (.tmp 19))⟩,
          ⟨(some 7), none, .p (.mv (.const (.int .i64 11)))⟩])
       .ret)
      .skip))
    (.seq
     (.seq
      (.region [⟨(some 20), none, .p (.mv (.tmp 8))⟩,
         ⟨(some 21), none, .p (.ibin .lss (.tmp 20) (.const (.int .i64 16)))⟩,
         ⟨(some 22), none, .p (.mv (.tmp 21))⟩,
         ⟨(some 23), (some (22, false)), .p (.mv (.tmp 8))⟩,
         ⟨(some 24), (some (22, false)), .p (.ibin .geq (.tmp 23) (.const (.int .i64 64)))⟩,
         ⟨(some 25), none, .p (.pick (.tmp 22) (.const (.bool true)) (.tmp 24))⟩])
      (.cond (.tmp 25)
       (.seq
        (.region [⟨(some 26), none, .p (.build [.bool false, .slice none 0 0] [])⟩,
           ⟨none, none, .w (.stN 2 (.tmp 6) (.tmp 26))⟩,
           ⟨(some 7), none, .p (.mv (.const (.int .i64 10)))⟩])
        .ret)
       .skip))
     (.seq
      (.region [⟨(some 27), none, .p (.mv (.tmp 0))⟩,
         ⟨(some 28), none, .p (.nilck (.tmp 27))⟩,
         ⟨(some 29), none, .p (.fieldA 0 (.tmp 28))⟩,
         ⟨(some 30), none, .p (.fieldA 0 (.tmp 29))⟩,
         ⟨(some 31), none, .r1 (.tmp 30)⟩,
         ⟨(some 32), none, .p (.mv (.tmp 8))⟩,
         ⟨(some 33), none, .p (.ibin .sub (.tmp 32) (.const (.int .i64 16)))⟩,
         ⟨(some 34), none, .p (.idxSl 2 (.tmp 31) (.tmp 33))⟩,
         ⟨(some 35), none, .rN 2 (.tmp 34)⟩,
         ⟨(some 10), none, .w (.alloc 61 [.bool false, .slice none 0 0])⟩,
         ⟨none, none, .w (.stN 2 (.tmp 10) (.tmp 35))⟩])
      (.seq
       (.seq
        (.region [⟨(some 36), none, .p (.fieldA 0 (.tmp 10))⟩,
           ⟨(some 37), none, .r1 (.tmp 36)⟩,
           ⟨(some 38), none, .p (.mv (.tmp 2))⟩,
           ⟨(some 39), none, .p (.eqb true (.tmp 37) (.tmp 38))⟩])
        (.cond (.tmp 39)
         (.seq
          (.region [⟨(some 40), none, .p (.build [.bool false, .slice none 0 0] [])⟩,
             ⟨none, none, .w (.stN 2 (.tmp 6) (.tmp 40))⟩,
             ⟨(some 7), none, .p (.mv (.const (.int .i64 14)))⟩])
          .ret)
         .skip))
       (.seq
        (.region [⟨(some 41), none, .rN 2 (.tmp 10)⟩,
           ⟨none, none, .w (.stN 2 (.tmp 6) (.tmp 41))⟩,
           ⟨(some 7), none, .p (.mv (.const (.int .i64 0)))⟩])
        .ret))))))), [.cN 2 6, .tmp 7]⟩
theorem comp85 : compFunc Try.prog 85 = some a85 := by kernel_rfl
theorem callable85 : callable Try.prog 85 = true := by kernel_rfl

/-- (*treadle/verify.checker).channel -/
def a87 : AFunc := ⟨2, (.seq
  (.region [⟨(some 4), none, .p (.mv (.const (.int .i64 0)))⟩,
     ⟨(some 5), none, .p (.mv (.const (.int .i64 0)))⟩])
  (.seq
   (.region [⟨(some 9), none, .p (.mv (.tmp 0))⟩,
      ⟨(some 10), none, .p (.mv (.tmp 1))⟩,
      ⟨(some 11), none, .w (.call 84 [(.tmp 9), (.tmp 10)])⟩,
      ⟨(some 8), none, .p (.mv (.tmp 11))⟩,
      ⟨(some 12), none, .p (.extract 0 (.tmp 8))⟩,
      ⟨(some 13), none, .p (.extract 1 (.tmp 8))⟩,
      ⟨(some 6), none, .p (.mv (.tmp 12))⟩,
      ⟨(some 7), none, .p (.mv (.tmp 13))⟩])
   (.seq
    (.seq
     (.region [⟨(some 14), none, .p (.mv (.tmp 7))⟩,
        ⟨(some 15), none, .p (.not (.tmp 14))⟩])
     (.cond (.tmp 15)
      (.seq
       (.region [⟨(some 4), none, .p (.mv (.const (.int .i64 0)))⟩,
          ⟨(some 5), none, .p (.mv (.const (.int .i64 11)))⟩])
       .ret)
      .skip))
    (.seq
     (.seq
      (.region [⟨(some 16), none, .p (.mv (.tmp 6))⟩,
         ⟨(some 17), none, .p (.ibin .lss (.tmp 16) (.const (.int .i64 64)))⟩])
      (.cond (.tmp 17)
       (.seq
        (.region [⟨(some 4), none, .p (.mv (.const (.int .i64 0)))⟩,
           ⟨(some 5), none, .p (.mv (.const (.int .i64 10)))⟩])
        .ret)
       .skip))
     (.seq
      (.region [⟨(some 18), none, .p (.mv (.tmp 6))⟩,
         ⟨(some 19), none, .p (.ibin .sub (.tmp 18) (.const (.int .i64 64)))⟩,
         ⟨(some 4), none, .p (.mv (.tmp 19))⟩,
         ⟨(some 5), none, .p (.mv (.const (.int .i64 0)))⟩])
      .ret))))), [.tmp 4, .tmp 5]⟩
theorem comp87 : compFunc Try.prog 87 = some a87 := by kernel_rfl
theorem callable87 : callable Try.prog 87 = true := by kernel_rfl

/-- (*treadle/chans.Chan).Close -/
def a89 : AFunc := ⟨1, (.seq
  (.region [⟨(some 2), none, .p (.mv (.const (.slice none 0 0)))⟩,
     ⟨(some 3), none, .p (.mv (.const (.bool false)))⟩])
  (.seq
   (.seq
    (.region [⟨(some 9), none, .p (.mv (.tmp 0))⟩,
       ⟨(some 10), none, .p (.eqp false (.tmp 9) (.const (.pointer none)))⟩,
       ⟨(some 11), none, .p (.mv (.tmp 10))⟩,
       ⟨(some 12), (some (11, false)), .p (.mv (.tmp 0))⟩,
       ⟨(some 13), (some (11, false)), .p (.nilck (.tmp 12))⟩,
       ⟨(some 14), (some (11, false)), .p (.fieldA 2 (.tmp 13))⟩,
       ⟨(some 15), (some (11, false)), .r1 (.tmp 14)⟩,
       ⟨(some 16), none, .p (.pick (.tmp 11) (.const (.bool true)) (.tmp 15))⟩])
    (.cond (.tmp 16)
     (.seq
      (.region [⟨(some 2), none, .p (.mv (.const (.slice none 0 0)))⟩,
         ⟨(some 3), none, .p (.mv (.const (.bool false)))⟩])
      .ret)
     .skip))
   (.seq
    (.region [⟨(some 17), none, .p (.mv (.tmp 0))⟩,
       ⟨(some 18), none, .p (.nilck (.tmp 17))⟩,
       ⟨(some 19), none, .p (.fieldA 2 (.tmp 18))⟩,
       ⟨none, none, .w (.st1 (.tmp 19) (.const (.bool true)))⟩])
    (.seq
     (.region [⟨(some 4), none, .p (.mv (.const (.slice none 0 0)))⟩])
     (.seq
      (.seq
       (.region [⟨(some 20), none, .p (.mv (.tmp 0))⟩,
          ⟨(some 21), none, .p (.nilck (.tmp 20))⟩,
          ⟨(some 22), none, .p (.fieldA 4 (.tmp 21))⟩,
          ⟨(some 23), none, .r1 (.tmp 22)⟩,
          ⟨(some 24), none, .p (.len false (.tmp 23))⟩,
          ⟨(some 25), none, .p (.mv (.const (.int .i64 0)))⟩])
       (.block 0
        (.loop
         (.seq
          (.region [⟨(some 26), none, .p (.ibin .lss (.tmp 25) (.tmp 24))⟩])
          (.seq
           (.cond (.tmp 26)
            .skip
            (.exit 0))
           (.seq
            (.block 1
             (.seq
              (.region [⟨(some 27), none, .p (.idxSl 2 (.tmp 23) (.tmp 25))⟩,
                 ⟨(some 28), none, .rN 2 (.tmp 27)⟩,
                 ⟨(some 6), none, .w (.alloc 147 [.int .i64 0, .int .u64 0])⟩,
                 ⟨none, none, .w (.stN 2 (.tmp 6) (.tmp 28))⟩])
              (.region [⟨(some 29), none, .p (.mv (.tmp 4))⟩,
                 ⟨(some 30), none, .p (.fieldA 0 (.tmp 6))⟩,
                 ⟨(some 31), none, .r1 (.tmp 30)⟩,
                 ⟨(some 32), none, .w (.bslice 3 1 [.int .i64 0] [(0, 1, (.tmp 31))])⟩,
                 ⟨(some 33), none, .w (.app 3 8 [.int .i64 0] (.tmp 29) (.tmp 32))⟩,
                 ⟨(some 4), none, .p (.mv (.tmp 33))⟩])))
            (.region [⟨(some 34), none, .p (.ibin .add (.tmp 25) (.const (.int .i64 1)))⟩,
               ⟨(some 25), none, .p (.mv (.tmp 34))⟩])))))))
      (.seq
       (.seq
        (.region [⟨(some 35), none, .p (.mv (.tmp 0))⟩,
           ⟨(some 36), none, .p (.nilck (.tmp 35))⟩,
           ⟨(some 37), none, .p (.fieldA 3 (.tmp 36))⟩,
           ⟨(some 38), none, .r1 (.tmp 37)⟩,
           ⟨(some 39), none, .p (.len false (.tmp 38))⟩,
           ⟨(some 40), none, .p (.mv (.const (.int .i64 0)))⟩])
        (.block 2
         (.loop
          (.seq
           (.region [⟨(some 41), none, .p (.ibin .lss (.tmp 40) (.tmp 39))⟩])
           (.seq
            (.cond (.tmp 41)
             .skip
             (.exit 2))
            (.seq
             (.block 3
              (.seq
               (.region [⟨(some 42), none, .p (.idxSl 2 (.tmp 38) (.tmp 40))⟩,
                  ⟨(some 43), none, .rN 2 (.tmp 42)⟩,
                  ⟨(some 8), none, .w (.alloc 147 [.int .i64 0, .int .u64 0])⟩,
                  ⟨none, none, .w (.stN 2 (.tmp 8) (.tmp 43))⟩])
               (.region [⟨(some 44), none, .p (.mv (.tmp 4))⟩,
                  ⟨(some 45), none, .p (.fieldA 0 (.tmp 8))⟩,
                  ⟨(some 46), none, .r1 (.tmp 45)⟩,
                  ⟨(some 47), none, .w (.bslice 3 1 [.int .i64 0] [(0, 1, (.tmp 46))])⟩,
                  ⟨(some 48), none, .w (.app 3 8 [.int .i64 0] (.tmp 44) (.tmp 47))⟩,
                  ⟨(some 4), none, .p (.mv (.tmp 48))⟩])))
             (.region [⟨(some 49), none, .p (.ibin .add (.tmp 40) (.const (.int .i64 1)))⟩,
                ⟨(some 40), none, .p (.mv (.tmp 49))⟩])))))))
       (.seq
        (.region [⟨(some 50), none, .p (.mv (.tmp 0))⟩,
           ⟨(some 51), none, .p (.mv (.tmp 0))⟩,
           ⟨(some 52), none, .p (.nilck (.tmp 50))⟩,
           ⟨(some 53), none, .p (.fieldA 4 (.tmp 52))⟩,
           ⟨none, none, .w (.st1 (.tmp 53) (.const (.slice none 0 0)))⟩,
           ⟨(some 54), none, .p (.nilck (.tmp 51))⟩,
           ⟨(some 55), none, .p (.fieldA 3 (.tmp 54))⟩,
           ⟨none, none, .w (.st1 (.tmp 55) (.const (.slice none 0 0)))⟩])
        (.seq
         (.region [⟨(some 56), none, .p (.mv (.tmp 4))⟩,
            ⟨(some 2), none, .p (.mv (.tmp 56))⟩,
            ⟨(some 3), none, .p (.mv (.const (.bool true)))⟩])
         .ret)))))))), [.tmp 2, .tmp 3]⟩
theorem comp89 : compFunc Try.prog 89 = some a89 := by kernel_rfl
theorem callable89 : callable Try.prog 89 = true := by kernel_rfl

/-- (*treadle/chans.Chan).Send -/
def a91 : AFunc := ⟨4, (.seq
  (.region [⟨(some 8), none, .w (.alloc 159 [.int .i64 0, .int .i64 0, .int .u64 0])⟩])
  (.seq
   (.block 0
    (.seq
     (.region [⟨(some 11), none, .p (.mv (.tmp 0))⟩,
        ⟨(some 12), none, .p (.eqp false (.tmp 11) (.const (.pointer none)))⟩,
        ⟨(some 10), none, .p (.mv (.tmp 12))⟩])
     (.cond (.tmp 10)
      (.seq
       (.region [⟨(some 13), none, .p (.build [.int .i64 0, .int .i64 0, .int .u64 0] [])⟩,
          ⟨none, none, .w (.stN 3 (.tmp 8) (.tmp 13))⟩])
       .ret)
      (.seq
       (.region [⟨(some 15), none, .p (.mv (.tmp 0))⟩,
          ⟨(some 16), none, .p (.nilck (.tmp 15))⟩,
          ⟨(some 17), none, .p (.fieldA 2 (.tmp 16))⟩,
          ⟨(some 18), none, .r1 (.tmp 17)⟩,
          ⟨(some 14), none, .p (.mv (.tmp 18))⟩])
       (.cond (.tmp 14)
        (.seq
         (.region [⟨(some 19), none, .p (.build [.int .i64 0, .int .i64 0, .int .u64 0] [(0, 1, (.const (.int .i64 4)))])⟩,
            ⟨none, none, .w (.stN 3 (.tmp 8) (.tmp 19))⟩])
         .ret)
        (.seq
         (.region [⟨(some 21), none, .p (.mv (.tmp 0))⟩,
            ⟨(some 22), none, .p (.nilck (.tmp 21))⟩,
            ⟨(some 23), none, .p (.fieldA 4 (.tmp 22))⟩,
            ⟨(some 24), none, .r1 (.tmp 23)⟩,
            ⟨(some 25), none, .p (.len false (.tmp 24))⟩,
            ⟨(some 26), none, .p (.ibin .gtr (.tmp 25) (.const (.int .i64 0)))⟩,
            ⟨(some 20), none, .p (.mv (.tmp 26))⟩])
         (.cond (.tmp 20)
          (.seq
           (.region [⟨(some 27), none, .p (.mv (.tmp 0))⟩,
              ⟨(some 28), none, .p (.nilck (.tmp 27))⟩,
              ⟨(some 29), none, .p (.fieldA 4 (.tmp 28))⟩,
              ⟨(some 30), none, .r1 (.tmp 29)⟩,
              ⟨(some 31), none, .p (.idxSl 2 (.tmp 30) (.const (.int .i64 0)))⟩,
              ⟨(some 32), none, .rN 2 (.tmp 31)⟩,
              ⟨(some 9), none, .w (.alloc 147 [.int .i64 0, .int .u64 0])⟩,
              ⟨none, none, .w (.stN 2 (.tmp 9) (.tmp 32))⟩])
           (.seq
            (.region [⟨(some 33), none, .p (.mv (.tmp 0))⟩,
               ⟨(some 34), none, .p (.mv (.tmp 0))⟩,
               ⟨(some 35), none, .p (.nilck (.tmp 34))⟩,
               ⟨(some 36), none, .p (.fieldA 4 (.tmp 35))⟩,
               ⟨(some 37), none, .r1 (.tmp 36)⟩,
               ⟨(some 38), none, .p (.slc 2 (.tmp 37) (some (.const (.int .i64 1))) none)⟩,
               ⟨(some 39), none, .p (.nilck (.tmp 33))⟩,
               ⟨(some 40), none, .p (.fieldA 4 (.tmp 39))⟩,
               ⟨none, none, .w (.st1 (.tmp 40) (.tmp 38))⟩])
            (.seq
             (.region [⟨(some 41), none, .p (.fieldA 0 (.tmp 9))⟩,
                ⟨(some 42), none, .r1 (.tmp 41)⟩,
                ⟨(some 43), none, .p (.build [.int .i64 0, .int .i64 0, .int .u64 0] [(0, 1, (.const (.int .i64 2))), (1, 1, (.tmp 42))])⟩,
                ⟨none, none, .w (.stN 3 (.tmp 8) (.tmp 43))⟩])
             .ret)))
          (.seq
           (.draw [⟨0, ⟨(some 45), none, .p (.mv (.tmp 0))⟩, []⟩,
              ⟨1, ⟨(some 46), none, .p (.nilck (.tmp 45))⟩, []⟩,
              ⟨2, ⟨(some 47), none, .p (.fieldA 0 (.tmp 46))⟩, []⟩,
              ⟨3, ⟨(some 48), none, .r1 (.tmp 47)⟩, []⟩,
              ⟨4, ⟨(some 49), none, .p (.len false (.tmp 48))⟩, []⟩,
              ⟨5, ⟨(some 50), none, .p (.mv (.tmp 0))⟩, []⟩,
              ⟨6, ⟨(some 51), none, .p (.nilck (.tmp 50))⟩, []⟩,
              ⟨7, ⟨(some 52), none, .p (.fieldA 1 (.tmp 51))⟩, []⟩,
              ⟨8, ⟨(some 53), none, .r1 (.tmp 52)⟩, []⟩,
              ⟨9, ⟨(some 54), none, .p (.ibin .lss (.tmp 49) (.tmp 53))⟩, []⟩,
              ⟨10, ⟨(some 44), none, .p (.mv (.tmp 54))⟩, []⟩])
           (.cond (.tmp 44)
            (.seq
             (.region [⟨(some 55), none, .p (.mv (.tmp 0))⟩,
                ⟨(some 56), none, .p (.mv (.tmp 0))⟩,
                ⟨(some 57), none, .p (.nilck (.tmp 56))⟩,
                ⟨(some 58), none, .p (.fieldA 0 (.tmp 57))⟩,
                ⟨(some 59), none, .r1 (.tmp 58)⟩,
                ⟨(some 60), none, .p (.mv (.tmp 2))⟩,
                ⟨(some 61), none, .w (.bslice 35 1 [.int .u64 0] [(0, 1, (.tmp 60))])⟩,
                ⟨(some 62), none, .w (.app 35 8 [.int .u64 0] (.tmp 59) (.tmp 61))⟩,
                ⟨(some 63), none, .p (.nilck (.tmp 55))⟩,
                ⟨(some 64), none, .p (.fieldA 0 (.tmp 63))⟩,
                ⟨none, none, .w (.st1 (.tmp 64) (.tmp 62))⟩])
             (.seq
              (.region [⟨(some 65), none, .p (.build [.int .i64 0, .int .i64 0, .int .u64 0] [(0, 1, (.const (.int .i64 1)))])⟩,
                 ⟨none, none, .w (.stN 3 (.tmp 8) (.tmp 65))⟩])
              .ret))
            .skip)))))))))
   (.seq
    (.seq
     (.region [⟨(some 66), none, .p (.mv (.tmp 3))⟩])
     (.cond (.tmp 66)
      (.region [⟨(some 67), none, .p (.mv (.tmp 0))⟩,
         ⟨(some 68), none, .p (.mv (.tmp 1))⟩,
         ⟨(some 69), none, .p (.mv (.tmp 2))⟩,
         ⟨(some 70), none, .w (.call 97 [(.tmp 67), (.tmp 68), (.tmp 69), (.const (.bool true))])⟩])
      .skip))
    (.seq
     (.region [⟨(some 71), none, .p (.build [.int .i64 0, .int .i64 0, .int .u64 0] [(0, 1, (.const (.int .i64 3)))])⟩,
        ⟨none, none, .w (.stN 3 (.tmp 8) (.tmp 71))⟩])
     .ret)))), [.cN 3 8]⟩
theorem comp91 : compFunc Try.prog 91 = some a91 := by kernel_rfl
theorem callable91 : callable Try.prog 91 = true := by kernel_rfl

/-- (*treadle/chans.Chan).Ready -/
def a93 : AFunc := ⟨2, (.seq
  (.region [⟨(some 4), none, .p (.mv (.const (.bool false)))⟩])
  (.seq
   (.seq
    (.region [⟨(some 5), none, .p (.mv (.tmp 0))⟩,
       ⟨(some 6), none, .p (.eqp false (.tmp 5) (.const (.pointer none)))⟩])
    (.cond (.tmp 6)
     (.seq
      (.region [⟨(some 4), none, .p (.mv (.const (.bool false)))⟩])
      .ret)
     .skip))
   (.seq
    (.seq
     (.region [⟨(some 7), none, .p (.mv (.tmp 1))⟩])
     (.cond (.tmp 7)
      (.seq
       (.draw [⟨0, ⟨(some 8), none, .p (.mv (.tmp 0))⟩, []⟩,
          ⟨1, ⟨(some 9), none, .p (.nilck (.tmp 8))⟩, []⟩,
          ⟨2, ⟨(some 10), none, .p (.fieldA 2 (.tmp 9))⟩, []⟩,
          ⟨3, ⟨(some 11), none, .r1 (.tmp 10)⟩, []⟩,
          ⟨4, ⟨(some 12), none, .p (.mv (.tmp 11))⟩, []⟩,
          ⟨5, ⟨(some 13), (some (12, false)), .p (.mv (.tmp 0))⟩, []⟩,
          ⟨6, ⟨(some 14), (some (12, false)), .p (.nilck (.tmp 13))⟩, []⟩,
          ⟨7, ⟨(some 15), (some (12, false)), .p (.fieldA 4 (.tmp 14))⟩, []⟩,
          ⟨8, ⟨(some 16), (some (12, false)), .r1 (.tmp 15)⟩, []⟩,
          ⟨9, ⟨(some 17), (some (12, false)), .p (.len false (.tmp 16))⟩, []⟩,
          ⟨10, ⟨(some 18), (some (12, false)), .p (.ibin .gtr (.tmp 17) (.const (.int .i64 0)))⟩, []⟩,
          ⟨11, ⟨(some 19), none, .p (.pick (.tmp 12) (.const (.bool true)) (.tmp 18))⟩, []⟩,
          ⟨12, ⟨(some 20), none, .p (.mv (.tmp 19))⟩, []⟩,
          ⟨13, ⟨(some 21), (some (20, false)), .p (.mv (.tmp 0))⟩, []⟩,
          ⟨14, ⟨(some 22), (some (20, false)), .p (.nilck (.tmp 21))⟩, []⟩,
          ⟨15, ⟨(some 23), (some (20, false)), .p (.fieldA 0 (.tmp 22))⟩, []⟩,
          ⟨16, ⟨(some 24), (some (20, false)), .r1 (.tmp 23)⟩, []⟩,
          ⟨17, ⟨(some 25), (some (20, false)), .p (.len false (.tmp 24))⟩, []⟩,
          ⟨18, ⟨(some 26), (some (20, false)), .p (.mv (.tmp 0))⟩, []⟩,
          ⟨19, ⟨(some 27), (some (20, false)), .p (.nilck (.tmp 26))⟩, []⟩,
          ⟨20, ⟨(some 28), (some (20, false)), .p (.fieldA 1 (.tmp 27))⟩, []⟩,
          ⟨21, ⟨(some 29), (some (20, false)), .r1 (.tmp 28)⟩, []⟩,
          ⟨22, ⟨(some 30), (some (20, false)), .p (.ibin .lss (.tmp 25) (.tmp 29))⟩, []⟩,
          ⟨23, ⟨(some 31), none, .p (.pick (.tmp 20) (.const (.bool true)) (.tmp 30))⟩, []⟩,
          ⟨24, ⟨(some 4), none, .p (.mv (.tmp 31))⟩, []⟩])
       .ret)
      .skip))
    (.seq
     (.region [⟨(some 32), none, .p (.mv (.tmp 0))⟩,
        ⟨(some 33), none, .p (.nilck (.tmp 32))⟩,
        ⟨(some 34), none, .p (.fieldA 2 (.tmp 33))⟩,
        ⟨(some 35), none, .r1 (.tmp 34)⟩,
        ⟨(some 36), none, .p (.mv (.tmp 35))⟩,
        ⟨(some 37), (some (36, false)), .p (.mv (.tmp 0))⟩,
        ⟨(some 38), (some (36, false)), .p (.nilck (.tmp 37))⟩,
        ⟨(some 39), (some (36, false)), .p (.fieldA 3 (.tmp 38))⟩,
        ⟨(some 40), (some (36, false)), .r1 (.tmp 39)⟩,
        ⟨(some 41), (some (36, false)), .p (.len false (.tmp 40))⟩,
        ⟨(some 42), (some (36, false)), .p (.ibin .gtr (.tmp 41) (.const (.int .i64 0)))⟩,
        ⟨(some 43), none, .p (.pick (.tmp 36) (.const (.bool true)) (.tmp 42))⟩,
        ⟨(some 44), none, .p (.mv (.tmp 43))⟩,
        ⟨(some 45), (some (44, false)), .p (.mv (.tmp 0))⟩,
        ⟨(some 46), (some (44, false)), .p (.nilck (.tmp 45))⟩,
        ⟨(some 47), (some (44, false)), .p (.fieldA 0 (.tmp 46))⟩,
        ⟨(some 48), (some (44, false)), .r1 (.tmp 47)⟩,
        ⟨(some 49), (some (44, false)), .p (.len false (.tmp 48))⟩,
        ⟨(some 50), (some (44, false)), .p (.ibin .gtr (.tmp 49) (.const (.int .i64 0)))⟩,
        ⟨(some 51), none, .p (.pick (.tmp 44) (.const (.bool true)) (.tmp 50))⟩,
        ⟨(some 4), none, .p (.mv (.tmp 51))⟩])
     .ret)))), [.tmp 4]⟩
theorem comp93 : compFunc Try.prog 93 = some a93 := by kernel_rfl
theorem callable93 : callable Try.prog 93 = true := by kernel_rfl

/-- (*treadle/ideal.Ideal).ins -/
def a95 : AFunc := ⟨2, (.seq
  (.region [⟨(some 4), none, .w (.alloc 38 [.int .i64 0, .int .i64 0, .int .i64 0, .int .i64 0, .int .u64 0, .slice none 0 0])⟩])
  (.seq
   (.draw [⟨0, ⟨(some 5), none, .p (.mv (.tmp 0))⟩, []⟩,
      ⟨1, ⟨(some 6), none, .p (.nilck (.tmp 5))⟩, []⟩,
      ⟨2, ⟨(some 7), none, .p (.fieldA 0 (.tmp 6))⟩, []⟩,
      ⟨3, ⟨(some 8), none, .p (.fieldA 2 (.tmp 7))⟩, []⟩,
      ⟨4, ⟨(some 9), none, .r1 (.tmp 8)⟩, []⟩,
      ⟨5, ⟨(some 10), none, .p (.mv (.tmp 1))⟩, []⟩,
      ⟨6, ⟨(some 11), none, .p (.nilck (.tmp 10))⟩, []⟩,
      ⟨7, ⟨(some 12), none, .p (.fieldA 0 (.tmp 11))⟩, []⟩,
      ⟨8, ⟨(some 13), none, .r1 (.tmp 12)⟩, []⟩,
      ⟨9, ⟨(some 14), none, .p (.idxSl 4 (.tmp 9) (.tmp 13))⟩, []⟩,
      ⟨10, ⟨(some 15), none, .p (.fieldA 3 (.tmp 14))⟩, []⟩,
      ⟨11, ⟨(some 16), none, .r1 (.tmp 15)⟩, []⟩,
      ⟨12, ⟨(some 17), none, .p (.mv (.tmp 1))⟩, []⟩,
      ⟨13, ⟨(some 18), none, .p (.nilck (.tmp 17))⟩, []⟩,
      ⟨14, ⟨(some 19), none, .p (.fieldA 1 (.tmp 18))⟩, []⟩,
      ⟨15, ⟨(some 20), none, .r1 (.tmp 19)⟩, []⟩,
      ⟨16, ⟨(some 21), none, .p (.ibin .sub (.tmp 20) (.const (.int .i64 1)))⟩, []⟩,
      ⟨17, ⟨(some 22), none, .p (.idxSl 6 (.tmp 16) (.tmp 21))⟩, []⟩,
      ⟨18, ⟨(some 23), none, .rN 6 (.tmp 22)⟩, []⟩,
      ⟨19, ⟨none, none, .w (.stN 6 (.tmp 4) (.tmp 23))⟩, []⟩])
   .ret)), [.cN 6 4]⟩
theorem comp95 : compFunc Try.prog 95 = some a95 := by kernel_rfl
theorem callable95 : callable Try.prog 95 = true := by kernel_rfl

/-- (*treadle/chans.Chan).Queue -/
def a97 : AFunc := ⟨4, (.block 0
  (.seq
   (.region [⟨(some 20), none, .p (.mv (.tmp 0))⟩,
      ⟨(some 21), none, .p (.eqp false (.tmp 20) (.const (.pointer none)))⟩,
      ⟨(some 19), none, .p (.mv (.tmp 21))⟩])
   (.cond (.tmp 19)
    .skip
    (.seq
     (.region [⟨(some 23), none, .p (.mv (.tmp 3))⟩,
        ⟨(some 22), none, .p (.mv (.tmp 23))⟩])
     (.cond (.tmp 22)
      (.region [⟨(some 24), none, .p (.mv (.tmp 0))⟩,
         ⟨(some 25), none, .p (.mv (.tmp 0))⟩,
         ⟨(some 26), none, .p (.nilck (.tmp 25))⟩,
         ⟨(some 27), none, .p (.fieldA 3 (.tmp 26))⟩,
         ⟨(some 28), none, .r1 (.tmp 27)⟩,
         ⟨(some 29), none, .p (.mv (.tmp 1))⟩,
         ⟨(some 30), none, .p (.mv (.tmp 2))⟩,
         ⟨(some 31), none, .p (.build [.int .i64 0, .int .u64 0] [(0, 1, (.tmp 29)), (1, 1, (.tmp 30))])⟩,
         ⟨(some 32), none, .w (.bslice 147 1 [.int .i64 0, .int .u64 0] [(0, 2, (.tmp 31))])⟩,
         ⟨(some 33), none, .w (.app 147 16 [.int .i64 0, .int .u64 0] (.tmp 28) (.tmp 32))⟩,
         ⟨(some 34), none, .p (.nilck (.tmp 24))⟩,
         ⟨(some 35), none, .p (.fieldA 3 (.tmp 34))⟩,
         ⟨none, none, .w (.st1 (.tmp 35) (.tmp 33))⟩])
      (.region [⟨(some 8), none, .p (.mv (.tmp 0))⟩,
         ⟨(some 9), none, .p (.mv (.tmp 0))⟩,
         ⟨(some 10), none, .p (.nilck (.tmp 9))⟩,
         ⟨(some 11), none, .p (.fieldA 4 (.tmp 10))⟩,
         ⟨(some 12), none, .r1 (.tmp 11)⟩,
         ⟨(some 13), none, .p (.mv (.tmp 1))⟩,
         ⟨(some 14), none, .p (.build [.int .i64 0, .int .u64 0] [(0, 1, (.tmp 13))])⟩,
         ⟨(some 15), none, .w (.bslice 147 1 [.int .i64 0, .int .u64 0] [(0, 2, (.tmp 14))])⟩,
         ⟨(some 16), none, .w (.app 147 16 [.int .i64 0, .int .u64 0] (.tmp 12) (.tmp 15))⟩,
         ⟨(some 17), none, .p (.nilck (.tmp 8))⟩,
         ⟨(some 18), none, .p (.fieldA 4 (.tmp 17))⟩,
         ⟨none, none, .w (.st1 (.tmp 18) (.tmp 16))⟩])))))), []⟩
theorem comp97 : compFunc Try.prog 97 = some a97 := by kernel_rfl
theorem callable97 : callable Try.prog 97 = true := by kernel_rfl
end Go.Am.Try
