import Derived.Test.YtddbpbkphimdkaaChecked
import Derived.Test.YtddbpbkphimdkaaVsLim
namespace Go.Proofs.Ytddbpbkphimdkaa
open Go Go.Vs
set_option maxRecDepth 100000

/- spillway/spillwaylaw13.ExtremePlays -/
def an3 : Ann := [[0, 1], [2], [0, 1, 23], [4], [0, 1, 26], [4], [0], [0], [0, 1, 5, 6], [1, 5, 6, 7, 8, 9], [1, 5, 6, 7, 8, 9, 10], [1, 5, 6, 7, 8, 9, 10, 11], [1, 5, 6, 7, 8, 9, 10, 11], [1, 5, 6, 7, 8, 9, 10, 11, 37], [1, 5, 6, 7, 8, 9, 10, 11, 12], [1, 5, 6, 7, 8, 9, 10, 11, 12, 55], [0], [1, 5, 6, 7, 8, 9, 10, 11], [0], [1, 5, 6, 7, 8, 9, 10, 11], [1, 5, 6, 7, 8, 9, 10, 11], [1, 5, 6, 7, 8, 9, 10, 11], [1, 5, 6, 7, 8, 9, 10, 11, 90], [1, 5, 6, 7, 8, 9, 10, 11], [1, 5, 6, 7, 8, 9, 10, 11, 12, 13], [1, 5, 6, 7, 8, 9, 10, 11, 12, 13, 109], [1, 5, 6, 7, 8, 9, 10, 11, 12, 13], [1, 5, 6, 7, 8, 9, 10, 11, 12, 13, 127], [1, 5, 6, 7, 8, 9, 10, 11, 12, 13], [1, 5, 6, 7, 8, 9, 10, 11, 12, 13], [2], [1, 5, 6, 7, 8, 9, 10, 11, 12, 13], [0], [0], [1, 5, 6, 7, 8, 9, 10, 11, 143], [4], [2], [1, 5, 6, 7, 8, 9, 10, 11, 14, 15], [2], [1, 5, 6, 7, 8, 9, 10, 11, 14, 15, 16, 17], [0], [2], [1, 5, 6, 7, 8, 9, 10, 11, 14, 15, 16, 17, 18, 19], [0], [2], [1, 5, 6, 7, 8, 9, 10, 11, 14, 15, 16, 17, 18, 19, 20, 21], [2], [2], [2], [2], [1, 5, 6, 7, 8, 9, 10, 11, 197], [4], [1, 5, 6, 7, 8, 9, 10, 11], [4]]
def fn3B0 : Cd :=
  (.seq (.seq (.rg [⟨(some 78), none, .mv (.t 10)⟩,
      ⟨(some 79), none, .len false (.t 78)⟩,
      ⟨(some 80), none, .bin .gtr (.t 79) (.c (.int .i64 0))⟩,
      ⟨(some 81), none, .mv (.t 80)⟩,
      ⟨(some 82), some (81, true), .mv (.t 10)⟩,
      ⟨(some 83), some (81, true), .iad 3 (.t 82) (.c (.int .i64 0))⟩,
      ⟨(some 84), some (81, true), .fad 0 (.t 83)⟩,
      ⟨(some 85), some (81, true), .load false 1 (.t 84) false⟩,
      ⟨(some 86), some (81, true), .mv (.t 8)⟩,
      ⟨(some 87), some (81, true), .mv (.t 7)⟩,
      ⟨(some 88), some (81, true), .bin .sub (.t 86) (.t 87)⟩,
      ⟨(some 89), some (81, true), .bin .leq (.t 85) (.t 88)⟩,
      ⟨(some 90), none, .pick (.t 81) (.t 89) (.c (.bool false))⟩] [1, 5, 6, 7, 8, 9, 10, 11, 90])
  (.cond (.t 90)
    .skip
    (.exit 2)))
  (.block 3
    (.rg [⟨(some 91), none, .mv (.t 10)⟩,
        ⟨(some 92), none, .slsl 3 (.t 91) (some (.c (.int .i64 1))) none none⟩,
        ⟨(some 10), none, .mv (.t 92)⟩] [1, 5, 6, 7, 8, 9, 10, 11])))
def fn3L0 : Cd := .loop [1, 5, 6, 7, 8, 9, 10, 11] fn3B0
def fn3B1 : Cd :=
  (.seq (.seq (.rg [⟨(some 34), none, .mv (.t 11)⟩,
      ⟨(some 35), none, .mv (.t 1)⟩,
      ⟨(some 36), none, .len false (.t 35)⟩,
      ⟨(some 37), none, .bin .lss (.t 34) (.t 36)⟩] [1, 5, 6, 7, 8, 9, 10, 11, 37])
  (.cond (.t 37)
    .skip
    (.exit 0)))
  (.seq (.block 1
    (.seq (.rg [⟨(some 40), none, .mv (.t 1)⟩,
        ⟨(some 41), none, .mv (.t 11)⟩,
        ⟨(some 42), none, .iad 4 (.t 40) (.t 41)⟩,
        ⟨(some 43), none, .fad 1 (.t 42)⟩,
        ⟨(some 44), none, .load false 1 (.t 43) false⟩,
        ⟨(some 45), none, .mv (.t 1)⟩,
        ⟨(some 46), none, .mv (.t 11)⟩,
        ⟨(some 47), none, .iad 4 (.t 45) (.t 46)⟩,
        ⟨(some 48), none, .fad 2 (.t 47)⟩,
        ⟨(some 49), none, .load true 2 (.t 48) false⟩,
        ⟨(some 50), none, .build [(.int .i64 0), (.bool false), (.int .i64 0)] [(0, 1, (.t 44)), (1, 2, (.t 49))]⟩,
        ⟨(some 12), none, .alloc [(.int .i64 0), (.bool false), (.int .i64 0)]⟩,
        ⟨none, none, .store 3 (.t 12) (.t 50)⟩] [1, 5, 6, 7, 8, 9, 10, 11, 12])
    (.seq (.seq (.rg [⟨(some 51), none, .mv (.t 1)⟩,
        ⟨(some 52), none, .mv (.t 11)⟩,
        ⟨(some 53), none, .iad 4 (.t 51) (.t 52)⟩,
        ⟨(some 54), none, .fad 0 (.t 53)⟩,
        ⟨(some 55), none, .load false 1 (.t 54) false⟩] [1, 5, 6, 7, 8, 9, 10, 11, 12, 55])
    (.cond (.t 55)
      (.seq (.rg [⟨(some 56), none, .mv (.t 5)⟩,
          ⟨(some 57), none, .mv (.t 1)⟩,
          ⟨(some 58), none, .mv (.t 11)⟩,
          ⟨(some 59), none, .iad 4 (.t 57) (.t 58)⟩,
          ⟨(some 60), none, .fad 1 (.t 59)⟩,
          ⟨(some 61), none, .load false 1 (.t 60) false⟩,
          ⟨(some 62), none, .call 0 (.f 8) [(.t 56), (.t 61)]⟩] [1, 5, 6, 7, 8, 9, 10, 11])
      (.seq (.rg [⟨(some 63), none, .mv (.t 6)⟩,
          ⟨(some 64), none, .mv (.t 1)⟩,
          ⟨(some 65), none, .mv (.t 11)⟩,
          ⟨(some 66), none, .iad 4 (.t 64) (.t 65)⟩,
          ⟨(some 67), none, .fad 1 (.t 66)⟩,
          ⟨(some 68), none, .load false 1 (.t 67) false⟩,
          ⟨(some 69), none, .call 0 (.f 8) [(.t 63), (.t 68)]⟩] [1, 5, 6, 7, 8, 9, 10, 11])
      (.seq (.rg [⟨(some 70), none, .mv (.t 8)⟩,
          ⟨(some 71), none, .mv (.t 1)⟩,
          ⟨(some 72), none, .mv (.t 11)⟩,
          ⟨(some 73), none, .iad 4 (.t 71) (.t 72)⟩,
          ⟨(some 74), none, .fad 1 (.t 73)⟩,
          ⟨(some 75), none, .load false 1 (.t 74) false⟩,
          ⟨(some 76), none, .mn [(.t 75), (.c (.int .i64 1000000))]⟩,
          ⟨(some 77), none, .mx [(.t 70), (.t 76)]⟩,
          ⟨(some 8), none, .mv (.t 77)⟩] [1, 5, 6, 7, 8, 9, 10, 11])
      (.block 2
        fn3L0))))
      (.seq (.rg [⟨(some 13), none, .mv (.c (.int .i64 0))⟩] [1, 5, 6, 7, 8, 9, 10, 11, 12, 13])
      (.seq (.block 4
        (.seq (.rg [⟨(some 110), none, .fad 0 (.t 12)⟩,
            ⟨(some 111), none, .load false 1 (.t 110) false⟩,
            ⟨(some 112), none, .bin .lss (.t 111) (.c (.int .i64 0))⟩,
            ⟨(some 113), none, .mv (.t 112)⟩,
            ⟨(some 114), some (113, false), .fad 0 (.t 12)⟩,
            ⟨(some 115), some (113, false), .load false 1 (.t 114) false⟩,
            ⟨(some 116), some (113, false), .mv (.t 8)⟩,
            ⟨(some 117), some (113, false), .bin .gtr (.t 115) (.t 116)⟩,
            ⟨(some 118), none, .pick (.t 113) (.c (.bool true)) (.t 117)⟩,
            ⟨(some 119), none, .mv (.t 118)⟩,
            ⟨(some 120), some (119, false), .fad 0 (.t 12)⟩,
            ⟨(some 121), some (119, false), .load false 1 (.t 120) false⟩,
            ⟨(some 122), some (119, false), .mv (.t 8)⟩,
            ⟨(some 123), some (119, false), .mv (.t 7)⟩,
            ⟨(some 124), some (119, false), .bin .sub (.t 122) (.t 123)⟩,
            ⟨(some 125), some (119, false), .bin .leq (.t 121) (.t 124)⟩,
            ⟨(some 126), none, .pick (.t 119) (.c (.bool true)) (.t 125)⟩,
            ⟨(some 109), none, .mv (.t 126)⟩] [1, 5, 6, 7, 8, 9, 10, 11, 12, 13, 109])
        (.cond (.t 109)
          (.rg [⟨(some 13), none, .mv (.c (.int .i64 152))⟩] [1, 5, 6, 7, 8, 9, 10, 11, 12, 13])
          (.seq (.rg [⟨(some 128), none, .fad 0 (.t 12)⟩,
              ⟨(some 129), none, .load false 1 (.t 128) false⟩,
              ⟨(some 130), none, .mv (.t 9)⟩,
              ⟨(some 131), none, .bin .leq (.t 129) (.t 130)⟩,
              ⟨(some 127), none, .mv (.t 131)⟩] [1, 5, 6, 7, 8, 9, 10, 11, 12, 13, 127])
          (.cond (.t 127)
            (.rg [⟨(some 13), none, .mv (.c (.int .i64 150))⟩] [1, 5, 6, 7, 8, 9, 10, 11, 12, 13])
            (.seq (.rg [⟨(some 93), none, .fad 0 (.t 12)⟩,
                ⟨(some 94), none, .load false 1 (.t 93) false⟩,
                ⟨(some 9), none, .mv (.t 94)⟩] [1, 5, 6, 7, 8, 9, 10, 11, 12, 13])
            (.rg [⟨(some 95), none, .mv (.t 10)⟩,
                ⟨(some 96), none, .mv (.t 10)⟩,
                ⟨(some 97), none, .len false (.t 96)⟩,
                ⟨(some 98), none, .mv (.t 10)⟩,
                ⟨(some 99), none, .len false (.t 98)⟩,
                ⟨(some 100), none, .slsl 3 (.t 95) none (some (.t 97)) (some (.t 99))⟩,
                ⟨(some 101), none, .fad 0 (.t 12)⟩,
                ⟨(some 102), none, .load false 1 (.t 101) false⟩,
                ⟨(some 103), none, .fad 1 (.t 12)⟩,
                ⟨(some 104), none, .load true 2 (.t 103) false⟩,
                ⟨(some 105), none, .call 2 (.f 9) [(.t 104)]⟩,
                ⟨(some 106), none, .build [(.int .i64 0), (.bool false), (.int .i64 0)] [(0, 1, (.t 102)), (1, 2, (.t 105))]⟩,
                ⟨(some 107), none, .bslice 1 3 [(.int .i64 0), (.bool false), (.int .i64 0)] [(0, (.t 106))]⟩,
                ⟨(some 108), none, .app 3 24 (.t 100) (.t 107)⟩,
                ⟨(some 10), none, .mv (.t 108)⟩] [1, 5, 6, 7, 8, 9, 10, 11, 12, 13])))))))
      (.seq (.rg [⟨(some 132), none, .mv (.t 5)⟩,
          ⟨(some 133), none, .load true 3 (.t 12) false⟩,
          ⟨(some 134), none, .call 0 (.f 10) [(.t 132), (.t 133)]⟩,
          ⟨(some 135), none, .mv (.t 13)⟩,
          ⟨(some 136), none, .bin .neq (.t 134) (.t 135)⟩,
          ⟨(some 137), none, .mv (.t 136)⟩,
          ⟨(some 138), some (137, false), .mv (.t 6)⟩,
          ⟨(some 139), some (137, false), .load true 3 (.t 12) false⟩,
          ⟨(some 140), some (137, false), .call 0 (.f 10) [(.t 138), (.t 139)]⟩,
          ⟨(some 141), some (137, false), .mv (.t 13)⟩,
          ⟨(some 142), some (137, false), .bin .neq (.t 140) (.t 141)⟩,
          ⟨(some 143), none, .pick (.t 137) (.c (.bool true)) (.t 142)⟩] [1, 5, 6, 7, 8, 9, 10, 11, 143])
      (.cond (.t 143)
        (.seq (.rg [⟨(some 4), none, .mv (.c (.bool false))⟩] [4])
        .ret)
        .skip))))))
    (.seq (.rg [⟨(some 145), none, .mv (.t 5)⟩,
        ⟨(some 146), none, .call 2 (.f 11) [(.t 145)]⟩,
        ⟨(some 144), none, .mv (.t 146)⟩,
        ⟨(some 147), none, .ext (.t 144) 0⟩,
        ⟨(some 148), none, .ext (.t 144) 1⟩,
        ⟨(some 14), none, .alloc [(.bool false), (.int .i64 0)]⟩,
        ⟨none, none, .store 2 (.t 14) (.t 147)⟩,
        ⟨(some 15), none, .mv (.t 148)⟩] [1, 5, 6, 7, 8, 9, 10, 11, 14, 15])
    (.seq (.rg [⟨(some 150), none, .mv (.t 6)⟩,
        ⟨(some 151), none, .call 2 (.f 11) [(.t 150)]⟩,
        ⟨(some 149), none, .mv (.t 151)⟩,
        ⟨(some 152), none, .ext (.t 149) 0⟩,
        ⟨(some 153), none, .ext (.t 149) 1⟩,
        ⟨(some 16), none, .alloc [(.bool false), (.int .i64 0)]⟩,
        ⟨none, none, .store 2 (.t 16) (.t 152)⟩,
        ⟨(some 17), none, .mv (.t 153)⟩] [1, 5, 6, 7, 8, 9, 10, 11, 14, 15, 16, 17])
    (.seq (.rg [⟨(some 155), none, .mv (.t 10)⟩,
        ⟨(some 156), none, .call 0 (.f 13) [(.t 155)]⟩,
        ⟨(some 157), none, .call 2 (.f 12) [(.t 156), (.c (.bool true))]⟩,
        ⟨(some 154), none, .mv (.t 157)⟩,
        ⟨(some 158), none, .ext (.t 154) 0⟩,
        ⟨(some 159), none, .ext (.t 154) 1⟩,
        ⟨(some 18), none, .alloc [(.bool false), (.int .i64 0)]⟩,
        ⟨none, none, .store 2 (.t 18) (.t 158)⟩,
        ⟨(some 19), none, .mv (.t 159)⟩] [1, 5, 6, 7, 8, 9, 10, 11, 14, 15, 16, 17, 18, 19])
    (.seq (.rg [⟨(some 161), none, .mv (.t 10)⟩,
        ⟨(some 162), none, .call 0 (.f 13) [(.t 161)]⟩,
        ⟨(some 163), none, .call 2 (.f 12) [(.t 162), (.c (.bool false))]⟩,
        ⟨(some 160), none, .mv (.t 163)⟩,
        ⟨(some 164), none, .ext (.t 160) 0⟩,
        ⟨(some 165), none, .ext (.t 160) 1⟩,
        ⟨(some 20), none, .alloc [(.bool false), (.int .i64 0)]⟩,
        ⟨none, none, .store 2 (.t 20) (.t 164)⟩,
        ⟨(some 21), none, .mv (.t 165)⟩] [1, 5, 6, 7, 8, 9, 10, 11, 14, 15, 16, 17, 18, 19, 20, 21])
    (.seq (.rg [⟨(some 166), none, .mv (.t 15)⟩,
        ⟨(some 167), none, .mv (.t 19)⟩,
        ⟨(some 168), none, .eqb true (.t 166) (.t 167)⟩,
        ⟨(some 169), none, .mv (.t 168)⟩,
        ⟨(some 170), some (169, false), .mv (.t 17)⟩,
        ⟨(some 171), some (169, false), .mv (.t 21)⟩,
        ⟨(some 172), some (169, false), .eqb true (.t 170) (.t 171)⟩,
        ⟨(some 173), none, .pick (.t 169) (.c (.bool true)) (.t 172)⟩,
        ⟨(some 174), none, .mv (.t 173)⟩,
        ⟨(some 175), some (174, false), .load true 2 (.t 14) false⟩,
        ⟨(some 176), some (174, false), .load true 2 (.t 18) false⟩,
        ⟨(some 177), some (174, false), .eqs true [0, 1] (.t 175) (.t 176)⟩,
        ⟨(some 178), none, .pick (.t 174) (.c (.bool true)) (.t 177)⟩,
        ⟨(some 179), none, .mv (.t 178)⟩,
        ⟨(some 180), some (179, false), .load true 2 (.t 16) false⟩,
        ⟨(some 181), some (179, false), .load true 2 (.t 20) false⟩,
        ⟨(some 182), some (179, false), .eqs true [0, 1] (.t 180) (.t 181)⟩,
        ⟨(some 183), none, .pick (.t 179) (.c (.bool true)) (.t 182)⟩,
        ⟨(some 184), none, .mv (.t 183)⟩,
        ⟨(some 185), some (184, false), .mv (.t 5)⟩,
        ⟨(some 186), some (184, false), .call 2 (.f 14) [(.t 185)]⟩,
        ⟨(some 187), some (184, false), .mv (.t 10)⟩,
        ⟨(some 188), some (184, false), .call 2 (.f 15) [(.t 187), (.c (.bool true))]⟩,
        ⟨(some 189), some (184, false), .bin .neq (.t 186) (.t 188)⟩,
        ⟨(some 190), none, .pick (.t 184) (.c (.bool true)) (.t 189)⟩,
        ⟨(some 191), none, .mv (.t 190)⟩,
        ⟨(some 192), some (191, false), .mv (.t 6)⟩,
        ⟨(some 193), some (191, false), .call 2 (.f 14) [(.t 192)]⟩,
        ⟨(some 194), some (191, false), .mv (.t 10)⟩,
        ⟨(some 195), some (191, false), .call 2 (.f 15) [(.t 194), (.c (.bool false))]⟩,
        ⟨(some 196), some (191, false), .bin .neq (.t 193) (.t 195)⟩,
        ⟨(some 197), none, .pick (.t 191) (.c (.bool true)) (.t 196)⟩] [1, 5, 6, 7, 8, 9, 10, 11, 197])
    (.cond (.t 197)
      (.seq (.rg [⟨(some 4), none, .mv (.c (.bool false))⟩] [4])
      .ret)
      .skip)))))))))
  (.rg [⟨(some 38), none, .mv (.t 11)⟩,
      ⟨(some 39), none, .bin .add (.t 38) (.c (.int .i64 1))⟩,
      ⟨(some 11), none, .mv (.t 39)⟩] [1, 5, 6, 7, 8, 9, 10, 11])))
def fn3L1 : Cd := .loop [1, 5, 6, 7, 8, 9, 10, 11] fn3B1
def fn3 : Vs.Fn := ⟨2,
  (.seq (.rg [⟨(some 4), none, .mv (.c (.bool false))⟩] [0, 1])
  (.seq (.seq (.rg [⟨(some 22), none, .call 2 (.f 6) []⟩,
      ⟨(some 23), none, .un .not (.t 22)⟩] [0, 1, 23])
  (.cond (.t 23)
    (.seq (.rg [⟨(some 4), none, .mv (.c (.bool false))⟩] [4])
    .ret)
    .skip))
  (.seq (.seq (.rg [⟨(some 24), none, .mv (.t 1)⟩,
      ⟨(some 25), none, .len false (.t 24)⟩,
      ⟨(some 26), none, .bin .gtr (.t 25) (.c (.int .i64 120))⟩] [0, 1, 26])
  (.cond (.t 26)
    (.seq (.rg [⟨(some 4), none, .mv (.c (.bool true))⟩] [4])
    .ret)
    .skip))
  (.seq (.rg [⟨(some 27), none, .mv (.t 0)⟩,
      ⟨(some 28), none, .call 0 (.f 7) [(.t 27), (.c (.bool true))]⟩,
      ⟨(some 29), none, .mv (.t 0)⟩,
      ⟨(some 30), none, .call 0 (.f 7) [(.t 29), (.c (.bool false))]⟩,
      ⟨(some 5), none, .mv (.t 28)⟩,
      ⟨(some 6), none, .mv (.t 30)⟩] [0, 1, 5, 6])
  (.seq (.rg [⟨(some 31), none, .mv (.t 0)⟩,
      ⟨(some 32), none, .mn [(.t 31), (.c (.int .i64 100))]⟩,
      ⟨(some 33), none, .mx [(.c (.int .i64 1)), (.t 32)]⟩,
      ⟨(some 7), none, .mv (.t 33)⟩,
      ⟨(some 8), none, .mv (.c (.int .i64 0))⟩,
      ⟨(some 9), none, .mv (.c (.int .i64 (-1)))⟩] [1, 5, 6, 7, 8, 9])
  (.seq (.rg [⟨(some 10), none, .mv (.c (.slice none 0 0))⟩] [1, 5, 6, 7, 8, 9, 10])
  (.seq (.seq (.rg [⟨(some 11), none, .mv (.c (.int .i64 0))⟩] [1, 5, 6, 7, 8, 9, 10, 11])
  (.block 0
    fn3L1))
  (.seq (.rg [⟨(some 4), none, .mv (.c (.bool true))⟩] [4])
  .ret)))))))),
  [.t 4]⟩

/- spillway/spillwaylaw13.ExtremeSlides -/
def an4 : Ann := [[0, 1, 2], [2], [0, 1, 2, 20], [6], [1, 2, 7], [0], [0], [1, 2, 7, 8, 9], [1, 2, 7, 8, 9, 10], [1, 2, 7, 8, 9, 10], [1, 2, 7, 8, 9, 10, 32], [1, 2, 7, 8, 9, 10, 11], [1, 2, 7, 8, 9, 10, 11, 36], [1, 2, 7, 8, 9, 10, 11], [0], [1, 2, 7, 8, 9, 10, 11], [0], [1, 2, 7, 8, 9, 10, 11], [2], [0], [2], [0], [1, 2, 7, 8, 9, 10, 60], [6], [1, 2, 7, 8, 9, 10, 12], [2], [1, 2, 7, 8, 9, 10, 12, 13], [2], [1, 2, 7, 8, 9, 10, 12, 13, 15], [1, 2, 7, 8, 9, 10, 12, 13, 15, 76], [2], [2], [1, 2, 7, 8, 9, 10, 12, 13, 15], [2], [2], [1, 2, 7, 8, 9, 10, 90], [6], [2], [2], [1, 2, 7, 8, 9, 10, 17, 18], [1, 2, 7, 8, 9, 10, 17, 18, 95], [1, 2, 7, 8, 9, 10, 17, 18], [1, 2, 7, 8, 9, 10, 107], [6], [1, 2, 7, 8, 9, 10], [6]]
def fn4B0 : Cd :=
  (.seq (.seq (.rg [⟨(some 29), none, .mv (.t 10)⟩,
      ⟨(some 30), none, .mv (.t 1)⟩,
      ⟨(some 31), none, .cvi .i64 (.t 30)⟩,
      ⟨(some 32), none, .bin .lss (.t 29) (.t 31)⟩] [1, 2, 7, 8, 9, 10, 32])
  (.cond (.t 32)
    .skip
    (.exit 0)))
  (.seq (.block 1
    (.seq (.rg [⟨(some 35), none, .mv (.t 10)⟩,
        ⟨(some 11), none, .mv (.t 35)⟩] [1, 2, 7, 8, 9, 10, 11])
    (.seq (.seq (.rg [⟨(some 36), none, .mv (.t 2)⟩] [1, 2, 7, 8, 9, 10, 11, 36])
    (.cond (.t 36)
      (.rg [⟨(some 37), none, .mv (.t 11)⟩,
          ⟨(some 38), none, .un .neg (.t 37)⟩,
          ⟨(some 11), none, .mv (.t 38)⟩] [1, 2, 7, 8, 9, 10, 11])
      .skip))
    (.seq (.rg [⟨(some 39), none, .mv (.t 8)⟩,
        ⟨(some 40), none, .mv (.t 10)⟩,
        ⟨(some 41), none, .call 0 (.f 8) [(.t 39), (.t 40)]⟩] [1, 2, 7, 8, 9, 10, 11])
    (.seq (.rg [⟨(some 42), none, .mv (.t 9)⟩,
        ⟨(some 43), none, .mv (.t 10)⟩,
        ⟨(some 44), none, .call 0 (.f 8) [(.t 42), (.t 43)]⟩] [1, 2, 7, 8, 9, 10, 11])
    (.seq (.seq (.rg [⟨(some 45), none, .mv (.t 8)⟩,
        ⟨(some 46), none, .mv (.t 10)⟩,
        ⟨(some 47), none, .mv (.t 11)⟩,
        ⟨(some 48), none, .call 2 (.f 16) [(.t 47)]⟩,
        ⟨(some 49), none, .build [(.int .i64 0), (.bool false), (.int .i64 0)] [(0, 1, (.t 46)), (1, 2, (.t 48))]⟩,
        ⟨(some 50), none, .call 0 (.f 10) [(.t 45), (.t 49)]⟩,
        ⟨(some 51), none, .bin .neq (.t 50) (.c (.int .i64 0))⟩,
        ⟨(some 52), none, .mv (.t 51)⟩,
        ⟨(some 53), some (52, false), .mv (.t 9)⟩,
        ⟨(some 54), some (52, false), .mv (.t 10)⟩,
        ⟨(some 55), some (52, false), .mv (.t 11)⟩,
        ⟨(some 56), some (52, false), .call 2 (.f 16) [(.t 55)]⟩,
        ⟨(some 57), some (52, false), .build [(.int .i64 0), (.bool false), (.int .i64 0)] [(0, 1, (.t 54)), (1, 2, (.t 56))]⟩,
        ⟨(some 58), some (52, false), .call 0 (.f 10) [(.t 53), (.t 57)]⟩,
        ⟨(some 59), some (52, false), .bin .neq (.t 58) (.c (.int .i64 0))⟩,
        ⟨(some 60), none, .pick (.t 52) (.c (.bool true)) (.t 59)⟩] [1, 2, 7, 8, 9, 10, 60])
    (.cond (.t 60)
      (.seq (.rg [⟨(some 6), none, .mv (.c (.bool false))⟩] [6])
      .ret)
      .skip))
    (.seq (.rg [⟨(some 61), none, .mv (.t 10)⟩,
        ⟨(some 62), none, .mv (.t 7)⟩,
        ⟨(some 63), none, .bin .sub (.t 61) (.t 62)⟩,
        ⟨(some 64), none, .bin .add (.t 63) (.c (.int .i64 1))⟩,
        ⟨(some 65), none, .mx [(.c (.int .i64 0)), (.t 64)]⟩,
        ⟨(some 12), none, .mv (.t 65)⟩] [1, 2, 7, 8, 9, 10, 12])
    (.seq (.rg [⟨(some 67), none, .mv (.t 8)⟩,
        ⟨(some 68), none, .call 2 (.f 11) [(.t 67)]⟩,
        ⟨(some 66), none, .mv (.t 68)⟩,
        ⟨(some 69), none, .ext (.t 66) 0⟩,
        ⟨(some 70), none, .ext (.t 66) 1⟩,
        ⟨(some 13), none, .alloc [(.bool false), (.int .i64 0)]⟩,
        ⟨none, none, .store 2 (.t 13) (.t 69)⟩,
        ⟨(some 14), none, .mv (.t 70)⟩] [1, 2, 7, 8, 9, 10, 12, 13])
    (.seq (.rg [⟨(some 72), none, .mv (.t 9)⟩,
        ⟨(some 73), none, .call 2 (.f 11) [(.t 72)]⟩,
        ⟨(some 71), none, .mv (.t 73)⟩,
        ⟨(some 74), none, .ext (.t 71) 0⟩,
        ⟨(some 75), none, .ext (.t 71) 1⟩,
        ⟨(some 15), none, .alloc [(.bool false), (.int .i64 0)]⟩,
        ⟨none, none, .store 2 (.t 15) (.t 74)⟩,
        ⟨(some 16), none, .mv (.t 75)⟩] [1, 2, 7, 8, 9, 10, 12, 13, 15])
    (.seq (.seq (.rg [⟨(some 76), none, .mv (.t 2)⟩] [1, 2, 7, 8, 9, 10, 12, 13, 15, 76])
    (.cond (.t 76)
      (.rg [⟨(some 77), none, .load true 2 (.t 15) false⟩,
          ⟨(some 78), none, .call 2 (.f 17) [(.t 77)]⟩,
          ⟨(some 79), none, .load true 2 (.t 13) false⟩,
          ⟨(some 80), none, .call 2 (.f 17) [(.t 79)]⟩,
          ⟨none, none, .store 2 (.t 13) (.t 78)⟩,
          ⟨none, none, .store 2 (.t 15) (.t 80)⟩] [1, 2, 7, 8, 9, 10, 12, 13, 15])
      .skip))
    (.seq (.seq (.rg [⟨(some 81), none, .load true 2 (.t 13) false⟩,
        ⟨(some 82), none, .mv (.t 10)⟩,
        ⟨(some 83), none, .call 2 (.f 16) [(.t 82)]⟩,
        ⟨(some 84), none, .eqs true [0, 1] (.t 81) (.t 83)⟩,
        ⟨(some 85), none, .mv (.t 84)⟩,
        ⟨(some 86), some (85, false), .load true 2 (.t 15) false⟩,
        ⟨(some 87), some (85, false), .mv (.t 12)⟩,
        ⟨(some 88), some (85, false), .call 2 (.f 16) [(.t 87)]⟩,
        ⟨(some 89), some (85, false), .eqs true [0, 1] (.t 86) (.t 88)⟩,
        ⟨(some 90), none, .pick (.t 85) (.c (.bool true)) (.t 89)⟩] [1, 2, 7, 8, 9, 10, 90])
    (.cond (.t 90)
      (.seq (.rg [⟨(some 6), none, .mv (.c (.bool false))⟩] [6])
      .ret)
      .skip))
    (.seq (.rg [⟨(some 91), none, .mv (.t 8)⟩,
        ⟨(some 92), none, .call 2 (.f 14) [(.t 91)]⟩,
        ⟨(some 93), none, .mv (.t 9)⟩,
        ⟨(some 94), none, .call 2 (.f 14) [(.t 93)]⟩,
        ⟨(some 17), none, .mv (.t 92)⟩,
        ⟨(some 18), none, .mv (.t 94)⟩] [1, 2, 7, 8, 9, 10, 17, 18])
    (.seq (.seq (.rg [⟨(some 95), none, .mv (.t 2)⟩] [1, 2, 7, 8, 9, 10, 17, 18, 95])
    (.cond (.t 95)
      (.rg [⟨(some 96), none, .mv (.t 18)⟩,
          ⟨(some 97), none, .mv (.t 17)⟩,
          ⟨(some 17), none, .mv (.t 96)⟩,
          ⟨(some 18), none, .mv (.t 97)⟩] [1, 2, 7, 8, 9, 10, 17, 18])
      .skip))
    (.seq (.rg [⟨(some 98), none, .mv (.t 17)⟩,
        ⟨(some 99), none, .bin .neq (.t 98) (.c (.int .i64 1))⟩,
        ⟨(some 100), none, .mv (.t 99)⟩,
        ⟨(some 101), some (100, false), .mv (.t 18)⟩,
        ⟨(some 102), some (100, false), .mv (.t 10)⟩,
        ⟨(some 103), some (100, false), .bin .add (.t 102) (.c (.int .i64 1))⟩,
        ⟨(some 104), some (100, false), .mv (.t 7)⟩,
        ⟨(some 105), some (100, false), .mn [(.t 103), (.t 104)]⟩,
        ⟨(some 106), some (100, false), .bin .neq (.t 101) (.t 105)⟩,
        ⟨(some 107), none, .pick (.t 100) (.c (.bool true)) (.t 106)⟩] [1, 2, 7, 8, 9, 10, 107])
    (.cond (.t 107)
      (.seq (.rg [⟨(some 6), none, .mv (.c (.bool false))⟩] [6])
      .ret)
      .skip)))))))))))))))
  (.rg [⟨(some 33), none, .mv (.t 10)⟩,
      ⟨(some 34), none, .bin .add (.t 33) (.c (.int .i64 1))⟩,
      ⟨(some 10), none, .mv (.t 34)⟩] [1, 2, 7, 8, 9, 10])))
def fn4L0 : Cd := .loop [1, 2, 7, 8, 9, 10] fn4B0
def fn4 : Vs.Fn := ⟨3,
  (.seq (.rg [⟨(some 6), none, .mv (.c (.bool false))⟩] [0, 1, 2])
  (.seq (.seq (.rg [⟨(some 19), none, .call 2 (.f 6) []⟩,
      ⟨(some 20), none, .un .not (.t 19)⟩] [0, 1, 2, 20])
  (.cond (.t 20)
    (.seq (.rg [⟨(some 6), none, .mv (.c (.bool false))⟩] [6])
    .ret)
    .skip))
  (.seq (.rg [⟨(some 21), none, .mv (.t 0)⟩,
      ⟨(some 22), none, .bin .rem (.t 21) (.c (.int .u8 50))⟩,
      ⟨(some 23), none, .cvi .i64 (.t 22)⟩,
      ⟨(some 24), none, .bin .add (.t 23) (.c (.int .i64 1))⟩,
      ⟨(some 7), none, .mv (.t 24)⟩] [1, 2, 7])
  (.seq (.rg [⟨(some 25), none, .mv (.t 7)⟩,
      ⟨(some 26), none, .call 0 (.f 7) [(.t 25), (.c (.bool true))]⟩,
      ⟨(some 27), none, .mv (.t 7)⟩,
      ⟨(some 28), none, .call 0 (.f 7) [(.t 27), (.c (.bool false))]⟩,
      ⟨(some 8), none, .mv (.t 26)⟩,
      ⟨(some 9), none, .mv (.t 28)⟩] [1, 2, 7, 8, 9])
  (.seq (.seq (.rg [⟨(some 10), none, .mv (.c (.int .i64 0))⟩] [1, 2, 7, 8, 9, 10])
  (.block 0
    fn4L0))
  (.seq (.rg [⟨(some 6), none, .mv (.c (.bool true))⟩] [6])
  .ret)))))),
  [.t 6]⟩

/- spillway/spillwaylaw13.ExtremeBoth -/
def an5 : Ann := [[0, 1], [2], [0, 1, 21], [4], [0, 1, 24], [4], [0, 5], [0], [0], [0], [0, 5, 6, 7, 8], [0, 5, 6, 7, 8], [0, 5, 6, 7, 8, 10], [0, 5, 6, 7, 8, 10], [0, 5, 6, 7, 8, 10, 38], [0, 5, 6, 7, 8, 10, 11], [2], [0, 5, 6, 7, 8, 10, 11, 47], [0, 5, 6, 7, 8, 10, 11], [0], [0, 5, 6, 7, 8, 10, 11], [0], [0, 5, 6, 7, 8, 10, 11], [0], [0, 5, 6, 7, 8, 10, 11], [0], [0], [2], [0], [0, 5, 6, 7, 8, 10, 80], [4], [0, 5, 6, 7, 8, 9, 10], [0, 5, 6, 7, 8, 9, 10, 12], [0, 5, 6, 7, 8, 9, 10, 12], [0, 5, 6, 7, 8, 9, 10, 12, 88], [2], [0, 5, 6, 7, 8, 9, 10, 12, 103], [0, 5, 6, 7, 8, 9, 10, 12], [0, 5, 6, 7, 8, 9, 10, 12], [2], [0, 5, 6, 7, 8, 9, 10, 13, 14], [2], [0, 5, 6, 7, 8, 9, 10, 13, 14, 15, 16], [2], [0, 5, 6, 7, 8, 9, 10, 13, 14, 15, 16, 17, 18], [0, 5, 6, 7, 8, 9, 10, 13, 14, 15, 16, 17, 18, 19], [2], [2], [0, 5, 6, 7, 8, 10, 165], [4], [0, 5, 6, 7, 8, 10], [4]]
def fn5B0 : Cd :=
  (.seq (.seq (.rg [⟨(some 86), none, .mv (.t 12)⟩,
      ⟨(some 87), none, .mv (.t 10)⟩,
      ⟨(some 88), none, .bin .leq (.t 86) (.t 87)⟩] [0, 5, 6, 7, 8, 9, 10, 12, 88])
  (.cond (.t 88)
    .skip
    (.exit 2)))
  (.seq (.block 3
    (.seq (.rg [⟨(some 91), none, .mv (.t 0)⟩,
        ⟨(some 92), none, .mv (.t 12)⟩,
        ⟨(some 93), none, .iad 2 (.t 91) (.t 92)⟩,
        ⟨(some 94), none, .fad 0 (.t 93)⟩,
        ⟨(some 95), none, .load false 1 (.t 94) false⟩,
        ⟨(some 96), none, .mv (.t 95)⟩,
        ⟨(some 97), some (96, false), .mv (.t 0)⟩,
        ⟨(some 98), some (96, false), .mv (.t 12)⟩,
        ⟨(some 99), some (96, false), .iad 2 (.t 97) (.t 98)⟩,
        ⟨(some 100), some (96, false), .load true 2 (.t 99) false⟩,
        ⟨(some 101), some (96, false), .call 2 (.f 18) [(.t 100)]⟩,
        ⟨(some 102), some (96, false), .un .not (.t 101)⟩,
        ⟨(some 103), none, .pick (.t 96) (.c (.bool true)) (.t 102)⟩] [0, 5, 6, 7, 8, 9, 10, 12, 103])
    (.cond (.t 103)
      (.rg [⟨(some 104), none, .mv (.t 9)⟩,
          ⟨(some 105), none, .bin .add (.t 104) (.c (.int .i64 1))⟩,
          ⟨(some 9), none, .mv (.t 105)⟩] [0, 5, 6, 7, 8, 9, 10, 12])
      .skip)))
  (.rg [⟨(some 89), none, .mv (.t 12)⟩,
      ⟨(some 90), none, .bin .add (.t 89) (.c (.int .i64 1))⟩,
      ⟨(some 12), none, .mv (.t 90)⟩] [0, 5, 6, 7, 8, 9, 10, 12])))
def fn5L0 : Cd := .loop [0, 5, 6, 7, 8, 9, 10, 12] fn5B0
def fn5B1 : Cd :=
  (.seq (.seq (.rg [⟨(some 35), none, .mv (.t 10)⟩,
      ⟨(some 36), none, .mv (.t 0)⟩,
      ⟨(some 37), none, .len false (.t 36)⟩,
      ⟨(some 38), none, .bin .lss (.t 35) (.t 37)⟩] [0, 5, 6, 7, 8, 10, 38])
  (.cond (.t 38)
    .skip
    (.exit 0)))
  (.seq (.block 1
    (.seq (.rg [⟨(some 41), none, .mv (.t 0)⟩,
        ⟨(some 42), none, .mv (.t 10)⟩,
        ⟨(some 43), none, .iad 2 (.t 41) (.t 42)⟩,
        ⟨(some 44), none, .load true 2 (.t 43) false⟩,
        ⟨(some 11), none, .alloc [(.bool false), (.int .i64 0)]⟩,
        ⟨none, none, .store 2 (.t 11) (.t 44)⟩] [0, 5, 6, 7, 8, 10, 11])
    (.seq (.seq (.rg [⟨(some 45), none, .load true 2 (.t 11) false⟩,
        ⟨(some 46), none, .call 2 (.f 18) [(.t 45)]⟩,
        ⟨(some 47), none, .un .not (.t 46)⟩] [0, 5, 6, 7, 8, 10, 11, 47])
    (.cond (.t 47)
      (.rg [⟨(some 48), none, .build [(.bool false), (.int .i64 0)] [(0, 1, (.c (.bool true)))]⟩,
          ⟨none, none, .store 2 (.t 11) (.t 48)⟩] [0, 5, 6, 7, 8, 10, 11])
      .skip))
    (.seq (.rg [⟨(some 49), none, .mv (.t 6)⟩,
        ⟨(some 50), none, .mv (.t 10)⟩,
        ⟨(some 51), none, .call 0 (.f 8) [(.t 49), (.t 50)]⟩] [0, 5, 6, 7, 8, 10, 11])
    (.seq (.rg [⟨(some 52), none, .mv (.t 7)⟩,
        ⟨(some 53), none, .mv (.t 10)⟩,
        ⟨(some 54), none, .call 0 (.f 8) [(.t 52), (.t 53)]⟩] [0, 5, 6, 7, 8, 10, 11])
    (.seq (.rg [⟨(some 55), none, .mv (.t 8)⟩,
        ⟨(some 56), none, .mv (.t 10)⟩,
        ⟨(some 57), none, .call 0 (.f 8) [(.t 55), (.t 56)]⟩] [0, 5, 6, 7, 8, 10, 11])
    (.seq (.seq (.rg [⟨(some 58), none, .mv (.t 6)⟩,
        ⟨(some 59), none, .mv (.t 10)⟩,
        ⟨(some 60), none, .load true 2 (.t 11) false⟩,
        ⟨(some 61), none, .build [(.int .i64 0), (.bool false), (.int .i64 0)] [(0, 1, (.t 59)), (1, 2, (.t 60))]⟩,
        ⟨(some 62), none, .call 0 (.f 10) [(.t 58), (.t 61)]⟩,
        ⟨(some 63), none, .bin .neq (.t 62) (.c (.int .i64 0))⟩,
        ⟨(some 64), none, .mv (.t 63)⟩,
        ⟨(some 65), some (64, false), .mv (.t 7)⟩,
        ⟨(some 66), some (64, false), .mv (.t 10)⟩,
        ⟨(some 67), some (64, false), .load true 2 (.t 11) false⟩,
        ⟨(some 68), some (64, false), .build [(.int .i64 0), (.bool false), (.int .i64 0)] [(0, 1, (.t 66)), (1, 2, (.t 67))]⟩,
        ⟨(some 69), some (64, false), .call 0 (.f 10) [(.t 65), (.t 68)]⟩,
        ⟨(some 70), some (64, false), .bin .neq (.t 69) (.c (.int .i64 0))⟩,
        ⟨(some 71), none, .pick (.t 64) (.c (.bool true)) (.t 70)⟩,
        ⟨(some 72), none, .mv (.t 71)⟩,
        ⟨(some 73), some (72, false), .mv (.t 8)⟩,
        ⟨(some 74), some (72, false), .mv (.t 10)⟩,
        ⟨(some 75), some (72, false), .load true 2 (.t 11) false⟩,
        ⟨(some 76), some (72, false), .call 2 (.f 17) [(.t 75)]⟩,
        ⟨(some 77), some (72, false), .build [(.int .i64 0), (.bool false), (.int .i64 0)] [(0, 1, (.t 74)), (1, 2, (.t 76))]⟩,
        ⟨(some 78), some (72, false), .call 0 (.f 10) [(.t 73), (.t 77)]⟩,
        ⟨(some 79), some (72, false), .bin .neq (.t 78) (.c (.int .i64 0))⟩,
        ⟨(some 80), none, .pick (.t 72) (.c (.bool true)) (.t 79)⟩] [0, 5, 6, 7, 8, 10, 80])
    (.cond (.t 80)
      (.seq (.rg [⟨(some 4), none, .mv (.c (.bool false))⟩] [4])
      .ret)
      .skip))
    (.seq (.rg [⟨(some 9), none, .mv (.c (.int .i64 0))⟩] [0, 5, 6, 7, 8, 9, 10])
    (.seq (.seq (.rg [⟨(some 81), none, .mv (.t 10)⟩,
        ⟨(some 82), none, .mv (.t 5)⟩,
        ⟨(some 83), none, .bin .sub (.t 81) (.t 82)⟩,
        ⟨(some 84), none, .bin .add (.t 83) (.c (.int .i64 1))⟩,
        ⟨(some 85), none, .mx [(.c (.int .i64 0)), (.t 84)]⟩,
        ⟨(some 12), none, .mv (.t 85)⟩] [0, 5, 6, 7, 8, 9, 10, 12])
    (.block 2
      fn5L0))
    (.seq (.rg [⟨(some 107), none, .mv (.t 6)⟩,
        ⟨(some 108), none, .call 2 (.f 11) [(.t 107)]⟩,
        ⟨(some 106), none, .mv (.t 108)⟩,
        ⟨(some 109), none, .ext (.t 106) 0⟩,
        ⟨(some 110), none, .ext (.t 106) 1⟩,
        ⟨(some 13), none, .alloc [(.bool false), (.int .i64 0)]⟩,
        ⟨none, none, .store 2 (.t 13) (.t 109)⟩,
        ⟨(some 14), none, .mv (.t 110)⟩] [0, 5, 6, 7, 8, 9, 10, 13, 14])
    (.seq (.rg [⟨(some 112), none, .mv (.t 7)⟩,
        ⟨(some 113), none, .call 2 (.f 11) [(.t 112)]⟩,
        ⟨(some 111), none, .mv (.t 113)⟩,
        ⟨(some 114), none, .ext (.t 111) 0⟩,
        ⟨(some 115), none, .ext (.t 111) 1⟩,
        ⟨(some 15), none, .alloc [(.bool false), (.int .i64 0)]⟩,
        ⟨none, none, .store 2 (.t 15) (.t 114)⟩,
        ⟨(some 16), none, .mv (.t 115)⟩] [0, 5, 6, 7, 8, 9, 10, 13, 14, 15, 16])
    (.seq (.rg [⟨(some 117), none, .mv (.t 8)⟩,
        ⟨(some 118), none, .call 2 (.f 11) [(.t 117)]⟩,
        ⟨(some 116), none, .mv (.t 118)⟩,
        ⟨(some 119), none, .ext (.t 116) 0⟩,
        ⟨(some 120), none, .ext (.t 116) 1⟩,
        ⟨(some 17), none, .alloc [(.bool false), (.int .i64 0)]⟩,
        ⟨none, none, .store 2 (.t 17) (.t 119)⟩,
        ⟨(some 18), none, .mv (.t 120)⟩] [0, 5, 6, 7, 8, 9, 10, 13, 14, 15, 16, 17, 18])
    (.seq (.rg [⟨(some 121), none, .mv (.t 10)⟩,
        ⟨(some 122), none, .bin .add (.t 121) (.c (.int .i64 1))⟩,
        ⟨(some 123), none, .mv (.t 5)⟩,
        ⟨(some 124), none, .mn [(.t 122), (.t 123)]⟩,
        ⟨(some 19), none, .mv (.t 124)⟩] [0, 5, 6, 7, 8, 9, 10, 13, 14, 15, 16, 17, 18, 19])
    (.seq (.rg [⟨(some 125), none, .mv (.t 14)⟩,
        ⟨(some 126), none, .un .not (.t 125)⟩,
        ⟨(some 127), none, .mv (.t 126)⟩,
        ⟨(some 128), some (127, false), .mv (.t 16)⟩,
        ⟨(some 129), some (127, false), .un .not (.t 128)⟩,
        ⟨(some 130), none, .pick (.t 127) (.c (.bool true)) (.t 129)⟩,
        ⟨(some 131), none, .mv (.t 130)⟩,
        ⟨(some 132), some (131, false), .mv (.t 18)⟩,
        ⟨(some 133), some (131, false), .un .not (.t 132)⟩,
        ⟨(some 134), none, .pick (.t 131) (.c (.bool true)) (.t 133)⟩,
        ⟨(some 135), none, .mv (.t 134)⟩,
        ⟨(some 136), some (135, false), .fad 0 (.t 15)⟩,
        ⟨(some 137), some (135, false), .load false 1 (.t 136) false⟩,
        ⟨(some 138), some (135, false), .mv (.t 9)⟩,
        ⟨(some 139), some (135, false), .bin .gtr (.t 138) (.c (.int .i64 0))⟩,
        ⟨(some 140), some (135, false), .eqb true (.t 137) (.t 139)⟩,
        ⟨(some 141), none, .pick (.t 135) (.c (.bool true)) (.t 140)⟩,
        ⟨(some 142), none, .mv (.t 141)⟩,
        ⟨(some 143), some (142, false), .fad 0 (.t 13)⟩,
        ⟨(some 144), some (142, false), .load false 1 (.t 143) false⟩,
        ⟨(some 145), some (142, false), .mv (.t 9)⟩,
        ⟨(some 146), some (142, false), .mv (.t 19)⟩,
        ⟨(some 147), some (142, false), .bin .eql (.t 145) (.t 146)⟩,
        ⟨(some 148), some (142, false), .eqb true (.t 144) (.t 147)⟩,
        ⟨(some 149), none, .pick (.t 142) (.c (.bool true)) (.t 148)⟩,
        ⟨(some 150), none, .mv (.t 149)⟩,
        ⟨(some 151), some (150, false), .load true 2 (.t 13) false⟩,
        ⟨(some 152), some (150, false), .load true 2 (.t 15) false⟩,
        ⟨(some 153), some (150, false), .call 2 (.f 19) [(.t 151), (.t 152)]⟩,
        ⟨(some 154), some (150, false), .bin .gtr (.t 153) (.c (.int .i64 0))⟩,
        ⟨(some 155), none, .pick (.t 150) (.c (.bool true)) (.t 154)⟩,
        ⟨(some 156), none, .mv (.t 155)⟩,
        ⟨(some 157), some (156, false), .mv (.t 9)⟩,
        ⟨(some 158), some (156, false), .bin .eql (.t 157) (.c (.int .i64 0))⟩,
        ⟨(some 159), some (156, false), .mv (.t 158)⟩,
        ⟨(some 160), some (159, true), .load true 2 (.t 13) false⟩,
        ⟨(some 161), some (159, true), .load true 2 (.t 17) false⟩,
        ⟨(some 162), some (159, true), .call 2 (.f 17) [(.t 161)]⟩,
        ⟨(some 163), some (159, true), .eqs true [0, 1] (.t 160) (.t 162)⟩,
        ⟨(some 164), some (156, false), .pick (.t 159) (.t 163) (.c (.bool false))⟩,
        ⟨(some 165), none, .pick (.t 156) (.c (.bool true)) (.t 164)⟩] [0, 5, 6, 7, 8, 10, 165])
    (.cond (.t 165)
      (.seq (.rg [⟨(some 4), none, .mv (.c (.bool false))⟩] [4])
      .ret)
      .skip)))))))))))))))
  (.rg [⟨(some 39), none, .mv (.t 10)⟩,
      ⟨(some 40), none, .bin .add (.t 39) (.c (.int .i64 1))⟩,
      ⟨(some 10), none, .mv (.t 40)⟩] [0, 5, 6, 7, 8, 10])))
def fn5L1 : Cd := .loop [0, 5, 6, 7, 8, 10] fn5B1
def fn5 : Vs.Fn := ⟨2,
  (.seq (.rg [⟨(some 4), none, .mv (.c (.bool false))⟩] [0, 1])
  (.seq (.seq (.rg [⟨(some 20), none, .call 2 (.f 6) []⟩,
      ⟨(some 21), none, .un .not (.t 20)⟩] [0, 1, 21])
  (.cond (.t 21)
    (.seq (.rg [⟨(some 4), none, .mv (.c (.bool false))⟩] [4])
    .ret)
    .skip))
  (.seq (.seq (.rg [⟨(some 22), none, .mv (.t 0)⟩,
      ⟨(some 23), none, .len false (.t 22)⟩,
      ⟨(some 24), none, .bin .gtr (.t 23) (.c (.int .i64 80))⟩] [0, 1, 24])
  (.cond (.t 24)
    (.seq (.rg [⟨(some 4), none, .mv (.c (.bool true))⟩] [4])
    .ret)
    .skip))
  (.seq (.rg [⟨(some 25), none, .mv (.t 1)⟩,
      ⟨(some 26), none, .bin .rem (.t 25) (.c (.int .u8 40))⟩,
      ⟨(some 27), none, .cvi .i64 (.t 26)⟩,
      ⟨(some 28), none, .bin .add (.t 27) (.c (.int .i64 1))⟩,
      ⟨(some 5), none, .mv (.t 28)⟩] [0, 5])
  (.seq (.rg [⟨(some 29), none, .mv (.t 5)⟩,
      ⟨(some 30), none, .call 0 (.f 7) [(.t 29), (.c (.bool false))]⟩,
      ⟨(some 31), none, .mv (.t 5)⟩,
      ⟨(some 32), none, .call 0 (.f 7) [(.t 31), (.c (.bool true))]⟩,
      ⟨(some 33), none, .mv (.t 5)⟩,
      ⟨(some 34), none, .call 0 (.f 7) [(.t 33), (.c (.bool true))]⟩,
      ⟨(some 6), none, .mv (.t 30)⟩,
      ⟨(some 7), none, .mv (.t 32)⟩,
      ⟨(some 8), none, .mv (.t 34)⟩] [0, 5, 6, 7, 8])
  (.seq (.rg [⟨(some 9), none, .mv (.c (.int .i64 0))⟩] [0, 5, 6, 7, 8])
  (.seq (.seq (.rg [⟨(some 10), none, .mv (.c (.int .i64 0))⟩] [0, 5, 6, 7, 8, 10])
  (.block 0
    fn5L1))
  (.seq (.rg [⟨(some 4), none, .mv (.c (.bool true))⟩] [4])
  .ret)))))))),
  [.t 4]⟩

/- spillway/spillwaylaw13.known -/
def an6 : Ann := [[], [0], [1], [1, 10], [0], [1, 11, 12], [1, 11, 12], [1, 11, 12, 13], [1, 2, 3, 11, 12], [0], [1, 2, 3, 11, 12], [2], [0], [1, 11, 12, 25], [0], [1, 11, 12], [2], [1, 4, 5], [0], [1, 4, 5], [2], [1, 4, 5, 6, 7], [2], [2], [2], [0]]
def fn6B0 : Cd :=
  (.seq (.rg [⟨(some 13), none, .bin .lss (.t 12) (.c (.int .i64 3))⟩] [1, 11, 12, 13])
  (.seq (.cond (.t 13)
    .skip
    (.exit 0))
  (.seq (.block 1
    (.seq (.rg [⟨(some 14), none, .mv (.t 12)⟩,
        ⟨(some 15), none, .iag 3 false 1 (.t 11) (.t 12)⟩,
        ⟨(some 2), none, .mv (.t 14)⟩,
        ⟨(some 3), none, .mv (.t 15)⟩] [1, 2, 3, 11, 12])
    (.seq (.rg [⟨(some 16), none, .mv (.t 1)⟩,
        ⟨(some 17), none, .mv (.t 2)⟩,
        ⟨(some 18), none, .call 0 (.f 8) [(.t 16), (.t 17)]⟩] [1, 2, 3, 11, 12])
    (.seq (.rg [⟨(some 19), none, .mv (.t 1)⟩,
        ⟨(some 20), none, .mv (.t 2)⟩,
        ⟨(some 21), none, .mv (.t 3)⟩,
        ⟨(some 22), none, .call 2 (.f 16) [(.t 21)]⟩,
        ⟨(some 23), none, .build [(.int .i64 0), (.bool false), (.int .i64 0)] [(0, 1, (.t 20)), (1, 2, (.t 22))]⟩,
        ⟨(some 24), none, .call 0 (.f 10) [(.t 19), (.t 23)]⟩,
        ⟨(some 25), none, .bin .neq (.t 24) (.c (.int .i64 0))⟩] [1, 11, 12, 25])
    (.cond (.t 25)
      (.seq (.rg [⟨(some 0), none, .mv (.c (.bool false))⟩] [0])
      .ret)
      .skip)))))
  (.rg [⟨(some 26), none, .bin .add (.t 12) (.c (.int .i64 1))⟩,
      ⟨(some 12), none, .mv (.t 26)⟩] [1, 11, 12]))))
def fn6L0 : Cd := .loop [1, 11, 12] fn6B0
def fn6 : Vs.Fn := ⟨0,
  (.seq (.rg [⟨(some 0), none, .mv (.c (.bool false))⟩] [])
  (.seq (.rg [⟨(some 8), none, .call 0 (.f 7) [(.c (.int .i64 10)), (.c (.bool true))]⟩,
      ⟨(some 1), none, .mv (.t 8)⟩] [1])
  (.seq (.seq (.rg [⟨(some 9), none, .mv (.t 1)⟩,
      ⟨(some 10), none, .eqn 0 false (.t 9)⟩] [1, 10])
  (.cond (.t 10)
    (.seq (.rg [⟨(some 0), none, .mv (.c (.bool false))⟩] [0])
    .ret)
    .skip))
  (.seq (.seq (.rg [⟨(some 11), none, .build [(.int .i64 0), (.int .i64 0), (.int .i64 0)] [(0, 1, (.c (.int .i64 3))), (1, 1, (.c (.int .i64 1))), (2, 1, (.c (.int .i64 2)))]⟩,
      ⟨(some 12), none, .mv (.c (.int .i64 0))⟩] [1, 11, 12])
  (.block 0
    fn6L0))
  (.seq (.rg [⟨(some 28), none, .mv (.t 1)⟩,
      ⟨(some 29), none, .call 2 (.f 11) [(.t 28)]⟩,
      ⟨(some 27), none, .mv (.t 29)⟩,
      ⟨(some 30), none, .ext (.t 27) 0⟩,
      ⟨(some 31), none, .ext (.t 27) 1⟩,
      ⟨(some 4), none, .alloc [(.bool false), (.int .i64 0)]⟩,
      ⟨none, none, .store 2 (.t 4) (.t 30)⟩,
      ⟨(some 5), none, .mv (.t 31)⟩] [1, 4, 5])
  (.seq (.rg [⟨(some 32), none, .mv (.t 1)⟩,
      ⟨(some 33), none, .call 0 (.f 8) [(.t 32), (.c (.int .i64 10))]⟩] [1, 4, 5])
  (.seq (.rg [⟨(some 35), none, .mv (.t 1)⟩,
      ⟨(some 36), none, .call 2 (.f 11) [(.t 35)]⟩,
      ⟨(some 34), none, .mv (.t 36)⟩,
      ⟨(some 37), none, .ext (.t 34) 0⟩,
      ⟨(some 38), none, .ext (.t 34) 1⟩,
      ⟨(some 6), none, .alloc [(.bool false), (.int .i64 0)]⟩,
      ⟨none, none, .store 2 (.t 6) (.t 37)⟩,
      ⟨(some 7), none, .mv (.t 38)⟩] [1, 4, 5, 6, 7])
  (.seq (.rg [⟨(some 39), none, .mv (.t 5)⟩,
      ⟨(some 40), none, .mv (.t 39)⟩,
      ⟨(some 41), some (40, true), .load true 2 (.t 4) false⟩,
      ⟨(some 42), some (40, true), .call 2 (.f 16) [(.c (.int .i64 3))]⟩,
      ⟨(some 43), some (40, true), .eqs false [0, 1] (.t 41) (.t 42)⟩,
      ⟨(some 44), none, .pick (.t 40) (.t 43) (.c (.bool false))⟩,
      ⟨(some 45), none, .mv (.t 44)⟩,
      ⟨(some 46), some (45, true), .mv (.t 1)⟩,
      ⟨(some 47), some (45, true), .call 2 (.f 14) [(.t 46)]⟩,
      ⟨(some 48), some (45, true), .bin .eql (.t 47) (.c (.int .i64 1))⟩,
      ⟨(some 49), none, .pick (.t 45) (.t 48) (.c (.bool false))⟩,
      ⟨(some 50), none, .mv (.t 49)⟩,
      ⟨(some 51), some (50, true), .mv (.t 7)⟩,
      ⟨(some 52), none, .pick (.t 50) (.t 51) (.c (.bool false))⟩,
      ⟨(some 53), none, .mv (.t 52)⟩,
      ⟨(some 54), some (53, true), .load true 2 (.t 6) false⟩,
      ⟨(some 55), some (53, true), .call 2 (.f 16) [(.c (.int .i64 2))]⟩,
      ⟨(some 56), some (53, true), .eqs false [0, 1] (.t 54) (.t 55)⟩,
      ⟨(some 57), none, .pick (.t 53) (.t 56) (.c (.bool false))⟩,
      ⟨(some 0), none, .mv (.t 57)⟩] [0])
  .ret)))))))),
  [.t 0]⟩

/- spillway/extreme.New -/
def an7 : Ann := [[0, 1], [4]]
def fn7 : Vs.Fn := ⟨2,
  (.seq (.rg [⟨(some 4), none, .mv (.c (.pointer none))⟩] [0, 1])
  (.seq (.rg [⟨(some 5), none, .mv (.t 0)⟩,
      ⟨(some 6), none, .mx [(.t 5), (.c (.int .i64 1))]⟩,
      ⟨(some 7), none, .mn [(.t 6), (.c (.int .i64 100))]⟩,
      ⟨(some 8), none, .build [(.int .i64 0), (.int .i64 0), (.int .i64 0)] [(0, 1, (.t 7)), (2, 1, (.c (.int .i64 (-1))))]⟩,
      ⟨(some 9), none, .mv (.t 1)⟩,
      ⟨(some 10), none, .build [(.int .i64 0), (.int .i64 0), (.int .i64 0), (.bool false), .nsl] [(0, 3, (.t 8)), (3, 1, (.t 9))]⟩,
      ⟨(some 11), none, .box 5 (.t 10)⟩,
      ⟨(some 4), none, .mv (.t 11)⟩] [4])
  .ret)),
  [.t 4]⟩

/- (*spillway/extreme.Extreme).Advance -/
def an8 : Ann := [[0], [0], [0], [2], [0, 27], [0]]
def fn8B0 : Cd :=
  (.seq (.seq (.rg [⟨(some 9), none, .mv (.t 0)⟩,
      ⟨(some 10), none, .nilck (.t 9)⟩,
      ⟨(some 11), none, .fad 4 (.t 10)⟩,
      ⟨(some 12), none, .load false 1 (.t 11) false⟩,
      ⟨(some 13), none, .len false (.t 12)⟩,
      ⟨(some 14), none, .bin .gtr (.t 13) (.c (.int .i64 0))⟩,
      ⟨(some 15), none, .mv (.t 14)⟩,
      ⟨(some 16), some (15, true), .mv (.t 0)⟩,
      ⟨(some 17), some (15, true), .nilck (.t 16)⟩,
      ⟨(some 18), some (15, true), .fad 0 (.t 17)⟩,
      ⟨(some 19), some (15, true), .mv (.t 0)⟩,
      ⟨(some 20), some (15, true), .nilck (.t 19)⟩,
      ⟨(some 21), some (15, true), .fad 4 (.t 20)⟩,
      ⟨(some 22), some (15, true), .load false 1 (.t 21) false⟩,
      ⟨(some 23), some (15, true), .iad 3 (.t 22) (.c (.int .i64 0))⟩,
      ⟨(some 24), some (15, true), .fad 0 (.t 23)⟩,
      ⟨(some 25), some (15, true), .load false 1 (.t 24) false⟩,
      ⟨(some 26), some (15, true), .call 2 (.f 21) [(.t 18), (.t 25)]⟩,
      ⟨(some 27), none, .pick (.t 15) (.t 26) (.c (.bool false))⟩] [0, 27])
  (.cond (.t 27)
    .skip
    (.exit 0)))
  (.block 1
    (.rg [⟨(some 28), none, .mv (.t 0)⟩,
        ⟨(some 29), none, .mv (.t 0)⟩,
        ⟨(some 30), none, .nilck (.t 29)⟩,
        ⟨(some 31), none, .fad 4 (.t 30)⟩,
        ⟨(some 32), none, .load false 1 (.t 31) false⟩,
        ⟨(some 33), none, .slsl 3 (.t 32) (some (.c (.int .i64 1))) none none⟩,
        ⟨(some 34), none, .nilck (.t 28)⟩,
        ⟨(some 35), none, .fad 4 (.t 34)⟩,
        ⟨none, none, .store 1 (.t 35) (.t 33)⟩] [0])))
def fn8L0 : Cd := .loop [0] fn8B0
def fn8 : Vs.Fn := ⟨2,
  (.seq (.rg [⟨(some 4), none, .mv (.t 0)⟩,
      ⟨(some 5), none, .nilck (.t 4)⟩,
      ⟨(some 6), none, .fad 0 (.t 5)⟩,
      ⟨(some 7), none, .mv (.t 1)⟩,
      ⟨(some 8), none, .call 0 (.f 20) [(.t 6), (.t 7)]⟩] [0])
  (.block 0
    fn8L0)),
  []⟩

/- spillway/spillwayref2.Norm -/
def an9 : Ann := [[1, 2], [2], [1, 2, 5], [2], [2], [2]]
def fn9 : Vs.Fn := ⟨1,
  (.seq (.rg [⟨(some 1), none, .box 2 (.t 0)⟩,
      ⟨(some 2), none, .alloc [(.bool false), (.int .i64 0)]⟩] [1, 2])
  (.seq (.seq (.rg [⟨(some 3), none, .load true 2 (.t 1) false⟩,
      ⟨(some 4), none, .call 2 (.f 22) [(.t 3)]⟩,
      ⟨(some 5), none, .un .not (.t 4)⟩] [1, 2, 5])
  (.cond (.t 5)
    (.seq (.rg [⟨(some 6), none, .call 2 (.f 23) []⟩,
        ⟨none, none, .store 2 (.t 2) (.t 6)⟩] [2])
    .ret)
    .skip))
  (.seq (.rg [⟨(some 7), none, .load true 2 (.t 1) false⟩,
      ⟨none, none, .store 2 (.t 2) (.t 7)⟩] [2])
  .ret))),
  [.cell 2 true 2]⟩

/- (*spillway/extreme.Extreme).Add -/
def an10 : Ann := [[0, 3], [0], [0, 3, 5], [0, 3, 5, 13], [4], [2], [0, 3, 18], [0, 3], [0, 3], [2], [0, 3, 45], [0, 3], [], [4]]
def fn10B0 : Cd :=
  (.seq (.seq (.rg [⟨(some 21), none, .mv (.t 0)⟩,
      ⟨(some 22), none, .nilck (.t 21)⟩,
      ⟨(some 23), none, .fad 4 (.t 22)⟩,
      ⟨(some 24), none, .load false 1 (.t 23) false⟩,
      ⟨(some 25), none, .len false (.t 24)⟩,
      ⟨(some 26), none, .bin .gtr (.t 25) (.c (.int .i64 0))⟩,
      ⟨(some 27), none, .mv (.t 26)⟩,
      ⟨(some 28), some (27, true), .mv (.t 0)⟩,
      ⟨(some 29), some (27, true), .fad 1 (.t 3)⟩,
      ⟨(some 30), some (27, true), .load true 2 (.t 29) false⟩,
      ⟨(some 31), some (27, true), .mv (.t 0)⟩,
      ⟨(some 32), some (27, true), .nilck (.t 31)⟩,
      ⟨(some 33), some (27, true), .fad 4 (.t 32)⟩,
      ⟨(some 34), some (27, true), .load false 1 (.t 33) false⟩,
      ⟨(some 35), some (27, true), .mv (.t 0)⟩,
      ⟨(some 36), some (27, true), .nilck (.t 35)⟩,
      ⟨(some 37), some (27, true), .fad 4 (.t 36)⟩,
      ⟨(some 38), some (27, true), .load false 1 (.t 37) false⟩,
      ⟨(some 39), some (27, true), .len false (.t 38)⟩,
      ⟨(some 40), some (27, true), .bin .sub (.t 39) (.c (.int .i64 1))⟩,
      ⟨(some 41), some (27, true), .iad 3 (.t 34) (.t 40)⟩,
      ⟨(some 42), some (27, true), .fad 1 (.t 41)⟩,
      ⟨(some 43), some (27, true), .load true 2 (.t 42) false⟩,
      ⟨(some 44), some (27, true), .call 2 (.f 25) [(.t 28), (.t 30), (.t 43)]⟩,
      ⟨(some 45), none, .pick (.t 27) (.t 44) (.c (.bool false))⟩] [0, 3, 45])
  (.cond (.t 45)
    .skip
    (.exit 0)))
  (.block 1
    (.rg [⟨(some 46), none, .mv (.t 0)⟩,
        ⟨(some 47), none, .mv (.t 0)⟩,
        ⟨(some 48), none, .nilck (.t 47)⟩,
        ⟨(some 49), none, .fad 4 (.t 48)⟩,
        ⟨(some 50), none, .load false 1 (.t 49) false⟩,
        ⟨(some 51), none, .mv (.t 0)⟩,
        ⟨(some 52), none, .nilck (.t 51)⟩,
        ⟨(some 53), none, .fad 4 (.t 52)⟩,
        ⟨(some 54), none, .load false 1 (.t 53) false⟩,
        ⟨(some 55), none, .len false (.t 54)⟩,
        ⟨(some 56), none, .bin .sub (.t 55) (.c (.int .i64 1))⟩,
        ⟨(some 57), none, .slsl 3 (.t 50) none (some (.t 56)) none⟩,
        ⟨(some 58), none, .nilck (.t 46)⟩,
        ⟨(some 59), none, .fad 4 (.t 58)⟩,
        ⟨none, none, .store 1 (.t 59) (.t 57)⟩] [0, 3])))
def fn10L0 : Cd := .loop [0, 3] fn10B0
def fn10 : Vs.Fn := ⟨2,
  (.seq (.rg [⟨(some 3), none, .box 3 (.t 1)⟩,
      ⟨(some 4), none, .mv (.c (.int .i64 0))⟩] [0, 3])
  (.seq (.seq (.rg [⟨(some 6), none, .mv (.t 0)⟩,
      ⟨(some 7), none, .nilck (.t 6)⟩,
      ⟨(some 8), none, .fad 0 (.t 7)⟩,
      ⟨(some 9), none, .fad 0 (.t 3)⟩,
      ⟨(some 10), none, .load false 1 (.t 9) false⟩,
      ⟨(some 11), none, .call 0 (.f 24) [(.t 8), (.t 10)]⟩,
      ⟨(some 5), none, .mv (.t 11)⟩] [0, 3, 5])
  (.seq (.rg [⟨(some 12), none, .mv (.t 5)⟩,
      ⟨(some 13), none, .bin .neq (.t 12) (.c (.int .i64 0))⟩] [0, 3, 5, 13])
  (.cond (.t 13)
    (.seq (.rg [⟨(some 14), none, .mv (.t 5)⟩,
        ⟨(some 4), none, .mv (.t 14)⟩] [4])
    .ret)
    .skip)))
  (.seq (.seq (.rg [⟨(some 15), none, .fad 1 (.t 3)⟩,
      ⟨(some 16), none, .load true 2 (.t 15) false⟩,
      ⟨(some 17), none, .call 2 (.f 18) [(.t 16)]⟩,
      ⟨(some 18), none, .un .not (.t 17)⟩] [0, 3, 18])
  (.cond (.t 18)
    (.rg [⟨(some 19), none, .build [(.bool false), (.int .i64 0)] [(0, 1, (.c (.bool true)))]⟩,
        ⟨(some 20), none, .fad 1 (.t 3)⟩,
        ⟨none, none, .store 2 (.t 20) (.t 19)⟩] [0, 3])
    .skip))
  (.seq (.block 0
    fn10L0)
  (.seq (.rg [⟨(some 60), none, .mv (.t 0)⟩,
      ⟨(some 61), none, .mv (.t 0)⟩,
      ⟨(some 62), none, .nilck (.t 61)⟩,
      ⟨(some 63), none, .fad 4 (.t 62)⟩,
      ⟨(some 64), none, .load false 1 (.t 63) false⟩,
      ⟨(some 65), none, .load true 3 (.t 3) false⟩,
      ⟨(some 66), none, .bslice 1 3 [(.int .i64 0), (.bool false), (.int .i64 0)] [(0, (.t 65))]⟩,
      ⟨(some 67), none, .app 3 24 (.t 64) (.t 66)⟩,
      ⟨(some 68), none, .nilck (.t 60)⟩,
      ⟨(some 69), none, .fad 4 (.t 68)⟩,
      ⟨none, none, .store 1 (.t 69) (.t 67)⟩] [])
  (.seq (.rg [⟨(some 4), none, .mv (.c (.int .i64 0))⟩] [4])
  .ret)))))),
  [.t 4]⟩

/- (*spillway/extreme.Extreme).Get -/
def an11 : Ann := [[0, 2], [0, 2, 9], [2, 3], [2, 3]]
def fn11 : Vs.Fn := ⟨1,
  (.seq (.rg [⟨(some 2), none, .alloc [(.bool false), (.int .i64 0)]⟩,
      ⟨(some 3), none, .mv (.c (.bool false))⟩] [0, 2])
  (.seq (.seq (.rg [⟨(some 4), none, .mv (.t 0)⟩,
      ⟨(some 5), none, .nilck (.t 4)⟩,
      ⟨(some 6), none, .fad 4 (.t 5)⟩,
      ⟨(some 7), none, .load false 1 (.t 6) false⟩,
      ⟨(some 8), none, .len false (.t 7)⟩,
      ⟨(some 9), none, .bin .eql (.t 8) (.c (.int .i64 0))⟩] [0, 2, 9])
  (.cond (.t 9)
    (.seq (.rg [⟨(some 10), none, .build [(.bool false), (.int .i64 0)] []⟩,
        ⟨none, none, .store 2 (.t 2) (.t 10)⟩,
        ⟨(some 3), none, .mv (.c (.bool false))⟩] [2, 3])
    .ret)
    .skip))
  (.seq (.rg [⟨(some 11), none, .mv (.t 0)⟩,
      ⟨(some 12), none, .nilck (.t 11)⟩,
      ⟨(some 13), none, .fad 4 (.t 12)⟩,
      ⟨(some 14), none, .load false 1 (.t 13) false⟩,
      ⟨(some 15), none, .iad 3 (.t 14) (.c (.int .i64 0))⟩,
      ⟨(some 16), none, .fad 1 (.t 15)⟩,
      ⟨(some 17), none, .load true 2 (.t 16) false⟩,
      ⟨none, none, .store 2 (.t 2) (.t 17)⟩,
      ⟨(some 3), none, .mv (.c (.bool true))⟩] [2, 3])
  .ret))),
  [.cell 2 true 2, .t 3]⟩

/- spillway/spillwayref15.Extreme -/
def an12 : Ann := [[0, 1, 4], [0, 1, 4, 11], [4, 5], [0, 1, 4, 6], [0, 1, 4, 6, 7], [0, 1, 4, 6, 7], [0, 1, 4, 6, 7, 19], [2], [0, 1, 4, 6, 7, 8], [0, 1, 4, 6, 7, 40], [0, 1, 4, 6, 7], [0, 1, 4, 6, 7], [2], [4, 5]]
def fn12B0 : Cd :=
  (.seq (.seq (.rg [⟨(some 16), none, .mv (.t 7)⟩,
      ⟨(some 17), none, .mv (.t 0)⟩,
      ⟨(some 18), none, .len false (.t 17)⟩,
      ⟨(some 19), none, .bin .lss (.t 16) (.t 18)⟩] [0, 1, 4, 6, 7, 19])
  (.cond (.t 19)
    .skip
    (.exit 0)))
  (.seq (.block 1
    (.seq (.rg [⟨(some 22), none, .mv (.t 0)⟩,
        ⟨(some 23), none, .mv (.t 7)⟩,
        ⟨(some 24), none, .iad 2 (.t 22) (.t 23)⟩,
        ⟨(some 25), none, .load true 2 (.t 24) false⟩,
        ⟨(some 26), none, .load true 2 (.t 6) false⟩,
        ⟨(some 27), none, .call 2 (.f 26) [(.t 25), (.t 26)]⟩,
        ⟨(some 8), none, .mv (.t 27)⟩] [0, 1, 4, 6, 7, 8])
    (.seq (.rg [⟨(some 28), none, .mv (.t 8)⟩,
        ⟨(some 29), none, .bin .gtr (.t 28) (.c (.int .i64 0))⟩,
        ⟨(some 30), none, .mv (.t 29)⟩,
        ⟨(some 31), some (30, true), .mv (.t 1)⟩,
        ⟨(some 32), none, .pick (.t 30) (.t 31) (.c (.bool false))⟩,
        ⟨(some 33), none, .mv (.t 32)⟩,
        ⟨(some 34), some (33, false), .mv (.t 8)⟩,
        ⟨(some 35), some (33, false), .bin .lss (.t 34) (.c (.int .i64 0))⟩,
        ⟨(some 36), some (33, false), .mv (.t 35)⟩,
        ⟨(some 37), some (36, true), .mv (.t 1)⟩,
        ⟨(some 38), some (36, true), .un .not (.t 37)⟩,
        ⟨(some 39), some (33, false), .pick (.t 36) (.t 38) (.c (.bool false))⟩,
        ⟨(some 40), none, .pick (.t 33) (.c (.bool true)) (.t 39)⟩] [0, 1, 4, 6, 7, 40])
    (.cond (.t 40)
      (.rg [⟨(some 41), none, .mv (.t 0)⟩,
          ⟨(some 42), none, .mv (.t 7)⟩,
          ⟨(some 43), none, .iad 2 (.t 41) (.t 42)⟩,
          ⟨(some 44), none, .load true 2 (.t 43) false⟩,
          ⟨none, none, .store 2 (.t 6) (.t 44)⟩] [0, 1, 4, 6, 7])
      .skip))))
  (.rg [⟨(some 20), none, .mv (.t 7)⟩,
      ⟨(some 21), none, .bin .add (.t 20) (.c (.int .i64 1))⟩,
      ⟨(some 7), none, .mv (.t 21)⟩] [0, 1, 4, 6, 7])))
def fn12L0 : Cd := .loop [0, 1, 4, 6, 7] fn12B0
def fn12 : Vs.Fn := ⟨2,
  (.seq (.rg [⟨(some 4), none, .alloc [(.bool false), (.int .i64 0)]⟩,
      ⟨(some 5), none, .mv (.c (.bool false))⟩] [0, 1, 4])
  (.seq (.seq (.rg [⟨(some 9), none, .mv (.t 0)⟩,
      ⟨(some 10), none, .len false (.t 9)⟩,
      ⟨(some 11), none, .bin .eql (.t 10) (.c (.int .i64 0))⟩] [0, 1, 4, 11])
  (.cond (.t 11)
    (.seq (.rg [⟨(some 12), none, .build [(.bool false), (.int .i64 0)] []⟩,
        ⟨none, none, .store 2 (.t 4) (.t 12)⟩,
        ⟨(some 5), none, .mv (.c (.bool false))⟩] [4, 5])
    .ret)
    .skip))
  (.seq (.rg [⟨(some 13), none, .mv (.t 0)⟩,
      ⟨(some 14), none, .iad 2 (.t 13) (.c (.int .i64 0))⟩,
      ⟨(some 15), none, .load true 2 (.t 14) false⟩,
      ⟨(some 6), none, .alloc [(.bool false), (.int .i64 0)]⟩,
      ⟨none, none, .store 2 (.t 6) (.t 15)⟩] [0, 1, 4, 6])
  (.seq (.seq (.rg [⟨(some 7), none, .mv (.c (.int .i64 1))⟩] [0, 1, 4, 6, 7])
  (.block 0
    fn12L0))
  (.seq (.rg [⟨(some 45), none, .load true 2 (.t 6) false⟩,
      ⟨(some 46), none, .call 2 (.f 9) [(.t 45)]⟩,
      ⟨none, none, .store 2 (.t 4) (.t 46)⟩,
      ⟨(some 5), none, .mv (.c (.bool true))⟩] [4, 5])
  .ret))))),
  [.cell 4 true 2, .t 5]⟩

/- spillway/spillwayref15.Values -/
def an13 : Ann := [[0], [0, 3], [0, 3, 4], [0, 3, 4], [0, 3, 4, 8], [2], [0, 3, 4], [0, 3, 4], [2]]
def fn13B0 : Cd :=
  (.seq (.seq (.rg [⟨(some 5), none, .mv (.t 4)⟩,
      ⟨(some 6), none, .mv (.t 0)⟩,
      ⟨(some 7), none, .len false (.t 6)⟩,
      ⟨(some 8), none, .bin .lss (.t 5) (.t 7)⟩] [0, 3, 4, 8])
  (.cond (.t 8)
    .skip
    (.exit 0)))
  (.seq (.block 1
    (.rg [⟨(some 11), none, .mv (.t 3)⟩,
        ⟨(some 12), none, .mv (.t 0)⟩,
        ⟨(some 13), none, .mv (.t 4)⟩,
        ⟨(some 14), none, .iad 3 (.t 12) (.t 13)⟩,
        ⟨(some 15), none, .fad 1 (.t 14)⟩,
        ⟨(some 16), none, .load true 2 (.t 15) false⟩,
        ⟨(some 17), none, .call 2 (.f 9) [(.t 16)]⟩,
        ⟨(some 18), none, .bslice 1 2 [(.bool false), (.int .i64 0)] [(0, (.t 17))]⟩,
        ⟨(some 19), none, .app 2 16 (.t 11) (.t 18)⟩,
        ⟨(some 3), none, .mv (.t 19)⟩] [0, 3, 4]))
  (.rg [⟨(some 9), none, .mv (.t 4)⟩,
      ⟨(some 10), none, .bin .add (.t 9) (.c (.int .i64 1))⟩,
      ⟨(some 4), none, .mv (.t 10)⟩] [0, 3, 4])))
def fn13L0 : Cd := .loop [0, 3, 4] fn13B0
def fn13 : Vs.Fn := ⟨1,
  (.seq (.rg [⟨(some 2), none, .mv (.c (.slice none 0 0))⟩] [0])
  (.seq (.rg [⟨(some 3), none, .mv (.c (.slice none 0 0))⟩] [0, 3])
  (.seq (.seq (.rg [⟨(some 4), none, .mv (.c (.int .i64 0))⟩] [0, 3, 4])
  (.block 0
    fn13L0))
  (.seq (.rg [⟨(some 20), none, .mv (.t 3)⟩,
      ⟨(some 2), none, .mv (.t 20)⟩] [2])
  .ret)))),
  [.t 2]⟩

/- (*spillway/extreme.Extreme).Kept -/
def an14 : Ann := [[0], [2]]
def fn14 : Vs.Fn := ⟨1,
  (.seq (.rg [⟨(some 2), none, .mv (.c (.int .i64 0))⟩] [0])
  (.seq (.rg [⟨(some 3), none, .mv (.t 0)⟩,
      ⟨(some 4), none, .nilck (.t 3)⟩,
      ⟨(some 5), none, .fad 4 (.t 4)⟩,
      ⟨(some 6), none, .load false 1 (.t 5) false⟩,
      ⟨(some 7), none, .len false (.t 6)⟩,
      ⟨(some 2), none, .mv (.t 7)⟩] [2])
  .ret)),
  [.t 2]⟩

/- spillway/spillwaylaw13.kept -/
def an15 : Ann := [[0, 1], [0, 1, 5], [0, 1, 5, 6], [0, 1, 5, 6], [0, 1, 5, 6, 13], [0, 1, 5, 6, 7], [0, 1, 5, 6, 7, 8], [0, 1, 5, 6, 7, 8], [0, 1, 5, 6, 7, 8, 21], [2], [0, 1, 5, 6, 7, 8, 9], [0, 1, 5, 6, 7, 8], [0, 1, 5, 6, 7, 8], [0, 1, 5, 6, 52], [0, 1, 5, 6], [0, 1, 5, 6], [4]]
def fn15B0 : Cd :=
  (.seq (.seq (.rg [⟨(some 18), none, .mv (.t 8)⟩,
      ⟨(some 19), none, .mv (.t 0)⟩,
      ⟨(some 20), none, .len false (.t 19)⟩,
      ⟨(some 21), none, .bin .lss (.t 18) (.t 20)⟩] [0, 1, 5, 6, 7, 8, 21])
  (.cond (.t 21)
    .skip
    (.exit 2)))
  (.seq (.block 3
    (.seq (.rg [⟨(some 24), none, .mv (.t 0)⟩,
        ⟨(some 25), none, .mv (.t 8)⟩,
        ⟨(some 26), none, .iad 3 (.t 24) (.t 25)⟩,
        ⟨(some 27), none, .fad 1 (.t 26)⟩,
        ⟨(some 28), none, .load true 2 (.t 27) false⟩,
        ⟨(some 29), none, .mv (.t 0)⟩,
        ⟨(some 30), none, .mv (.t 6)⟩,
        ⟨(some 31), none, .iad 3 (.t 29) (.t 30)⟩,
        ⟨(some 32), none, .fad 1 (.t 31)⟩,
        ⟨(some 33), none, .load true 2 (.t 32) false⟩,
        ⟨(some 34), none, .call 2 (.f 26) [(.t 28), (.t 33)]⟩,
        ⟨(some 9), none, .mv (.t 34)⟩] [0, 1, 5, 6, 7, 8, 9])
    (.rg [⟨(some 35), none, .mv (.t 7)⟩,
        ⟨(some 36), none, .mv (.t 35)⟩,
        ⟨(some 37), some (36, false), .mv (.t 1)⟩,
        ⟨(some 38), some (36, false), .mv (.t 37)⟩,
        ⟨(some 39), some (38, true), .mv (.t 9)⟩,
        ⟨(some 40), some (38, true), .bin .geq (.t 39) (.c (.int .i64 0))⟩,
        ⟨(some 41), some (36, false), .pick (.t 38) (.t 40) (.c (.bool false))⟩,
        ⟨(some 42), none, .pick (.t 36) (.c (.bool true)) (.t 41)⟩,
        ⟨(some 43), none, .mv (.t 42)⟩,
        ⟨(some 44), some (43, false), .mv (.t 1)⟩,
        ⟨(some 45), some (43, false), .un .not (.t 44)⟩,
        ⟨(some 46), some (43, false), .mv (.t 45)⟩,
        ⟨(some 47), some (46, true), .mv (.t 9)⟩,
        ⟨(some 48), some (46, true), .bin .leq (.t 47) (.c (.int .i64 0))⟩,
        ⟨(some 49), some (43, false), .pick (.t 46) (.t 48) (.c (.bool false))⟩,
        ⟨(some 50), none, .pick (.t 43) (.c (.bool true)) (.t 49)⟩,
        ⟨(some 7), none, .mv (.t 50)⟩] [0, 1, 5, 6, 7, 8])))
  (.rg [⟨(some 22), none, .mv (.t 8)⟩,
      ⟨(some 23), none, .bin .add (.t 22) (.c (.int .i64 1))⟩,
      ⟨(some 8), none, .mv (.t 23)⟩] [0, 1, 5, 6, 7, 8])))
def fn15L0 : Cd := .loop [0, 1, 5, 6, 7, 8] fn15B0
def fn15B1 : Cd :=
  (.seq (.seq (.rg [⟨(some 10), none, .mv (.t 6)⟩,
      ⟨(some 11), none, .mv (.t 0)⟩,
      ⟨(some 12), none, .len false (.t 11)⟩,
      ⟨(some 13), none, .bin .lss (.t 10) (.t 12)⟩] [0, 1, 5, 6, 13])
  (.cond (.t 13)
    .skip
    (.exit 0)))
  (.seq (.block 1
    (.seq (.rg [⟨(some 7), none, .mv (.c (.bool false))⟩] [0, 1, 5, 6, 7])
    (.seq (.seq (.rg [⟨(some 16), none, .mv (.t 6)⟩,
        ⟨(some 17), none, .bin .add (.t 16) (.c (.int .i64 1))⟩,
        ⟨(some 8), none, .mv (.t 17)⟩] [0, 1, 5, 6, 7, 8])
    (.block 2
      fn15L0))
    (.seq (.rg [⟨(some 51), none, .mv (.t 7)⟩,
        ⟨(some 52), none, .un .not (.t 51)⟩] [0, 1, 5, 6, 52])
    (.cond (.t 52)
      (.rg [⟨(some 53), none, .mv (.t 5)⟩,
          ⟨(some 54), none, .bin .add (.t 53) (.c (.int .i64 1))⟩,
          ⟨(some 5), none, .mv (.t 54)⟩] [0, 1, 5, 6])
      .skip)))))
  (.rg [⟨(some 14), none, .mv (.t 6)⟩,
      ⟨(some 15), none, .bin .add (.t 14) (.c (.int .i64 1))⟩,
      ⟨(some 6), none, .mv (.t 15)⟩] [0, 1, 5, 6])))
def fn15L1 : Cd := .loop [0, 1, 5, 6] fn15B1
def fn15 : Vs.Fn := ⟨2,
  (.seq (.rg [⟨(some 4), none, .mv (.c (.int .i64 0))⟩] [0, 1])
  (.seq (.rg [⟨(some 5), none, .mv (.c (.int .i64 0))⟩] [0, 1, 5])
  (.seq (.seq (.rg [⟨(some 6), none, .mv (.c (.int .i64 0))⟩] [0, 1, 5, 6])
  (.block 0
    fn15L1))
  (.seq (.rg [⟨(some 55), none, .mv (.t 5)⟩,
      ⟨(some 4), none, .mv (.t 55)⟩] [4])
  .ret)))),
  [.t 4]⟩

/- spillway/fix.Of -/
def an16 : Ann := [[0, 2], [2], [2], [2]]
def fn16 : Vs.Fn := ⟨1,
  (.seq (.rg [⟨(some 2), none, .alloc [(.bool false), (.int .i64 0)]⟩] [0, 2])
  (.seq (.rg [⟨(some 3), none, .mv (.t 0)⟩,
      ⟨(some 4), none, .bin .lss (.t 3) (.c (.int .i64 0))⟩,
      ⟨(some 5), none, .mv (.t 0)⟩,
      ⟨(some 6), none, .call 2 (.f 28) [(.t 5)]⟩,
      ⟨(some 7), none, .call 2 (.f 27) [(.t 4), (.t 6), (.c (.int .u64 1000000)), (.c (.int .u64 1))]⟩,
      ⟨none, none, .store 2 (.t 2) (.t 7)⟩] [2])
  .ret)),
  [.cell 2 true 2]⟩

/- spillway/fix.Neg -/
def an17 : Ann := [[1, 2], [2], [1, 2, 4], [2], [2], [2]]
def fn17 : Vs.Fn := ⟨1,
  (.seq (.rg [⟨(some 1), none, .box 2 (.t 0)⟩,
      ⟨(some 2), none, .alloc [(.bool false), (.int .i64 0)]⟩] [1, 2])
  (.seq (.seq (.rg [⟨(some 3), none, .load true 2 (.t 1) false⟩,
      ⟨(some 4), none, .call 2 (.f 29) [(.t 3)]⟩] [1, 2, 4])
  (.cond (.t 4)
    (.seq (.rg [⟨(some 5), none, .call 2 (.f 30) []⟩,
        ⟨none, none, .store 2 (.t 2) (.t 5)⟩] [2])
    .ret)
    .skip))
  (.seq (.rg [⟨(some 6), none, .fad 1 (.t 1)⟩,
      ⟨(some 7), none, .load false 1 (.t 6) false⟩,
      ⟨(some 8), none, .un .neg (.t 7)⟩,
      ⟨(some 9), none, .build [(.bool false), (.int .i64 0)] [(1, 1, (.t 8))]⟩,
      ⟨none, none, .store 2 (.t 2) (.t 9)⟩] [2])
  .ret))),
  [.cell 2 true 2]⟩

/- spillway/fix.Is -/
def an18 : Ann := [[1], [2], [2]]
def fn18 : Vs.Fn := ⟨1,
  (.seq (.rg [⟨(some 1), none, .box 2 (.t 0)⟩,
      ⟨(some 2), none, .mv (.c (.bool false))⟩] [1])
  (.seq (.rg [⟨(some 3), none, .load true 2 (.t 1) false⟩,
      ⟨(some 4), none, .call 2 (.f 30) []⟩,
      ⟨(some 5), none, .eqs false [0, 1] (.t 3) (.t 4)⟩,
      ⟨(some 6), none, .mv (.t 5)⟩,
      ⟨(some 7), some (6, false), .fad 0 (.t 1)⟩,
      ⟨(some 8), some (6, false), .load false 1 (.t 7) false⟩,
      ⟨(some 9), some (6, false), .un .not (.t 8)⟩,
      ⟨(some 10), some (6, false), .mv (.t 9)⟩,
      ⟨(some 11), some (10, true), .fad 1 (.t 1)⟩,
      ⟨(some 12), some (10, true), .load false 1 (.t 11) false⟩,
      ⟨(some 13), some (10, true), .bin .neq (.t 12) (.c (.int .i64 (-9223372036854775808)))⟩,
      ⟨(some 14), some (6, false), .pick (.t 10) (.t 13) (.c (.bool false))⟩,
      ⟨(some 15), none, .pick (.t 6) (.c (.bool true)) (.t 14)⟩,
      ⟨(some 2), none, .mv (.t 15)⟩] [2])
  .ret)),
  [.t 2]⟩

/- spillway/fix.Cmp -/
def an19 : Ann := [[2, 3], [2], [2], [2, 3, 5], [4], [2], [2, 3, 12], [4], [2], [2, 3, 15], [4], [2], [4]]
def fn19 : Vs.Fn := ⟨2,
  (.seq (.rg [⟨(some 2), none, .box 2 (.t 0)⟩,
      ⟨(some 3), none, .box 2 (.t 1)⟩,
      ⟨(some 4), none, .mv (.c (.int .i64 0))⟩] [2, 3])
  (.seq (.block 0
    (.seq (.rg [⟨(some 6), none, .load true 2 (.t 2) false⟩,
        ⟨(some 7), none, .call 2 (.f 29) [(.t 6)]⟩,
        ⟨(some 8), none, .mv (.t 7)⟩,
        ⟨(some 9), some (8, true), .load true 2 (.t 3) false⟩,
        ⟨(some 10), some (8, true), .call 2 (.f 29) [(.t 9)]⟩,
        ⟨(some 11), none, .pick (.t 8) (.t 10) (.c (.bool false))⟩,
        ⟨(some 5), none, .mv (.t 11)⟩] [2, 3, 5])
    (.cond (.t 5)
      (.seq (.rg [⟨(some 4), none, .mv (.c (.int .i64 0))⟩] [4])
      .ret)
      (.seq (.rg [⟨(some 13), none, .load true 2 (.t 2) false⟩,
          ⟨(some 14), none, .call 2 (.f 29) [(.t 13)]⟩,
          ⟨(some 12), none, .mv (.t 14)⟩] [2, 3, 12])
      (.cond (.t 12)
        (.seq (.rg [⟨(some 4), none, .mv (.c (.int .i64 1))⟩] [4])
        .ret)
        (.seq (.rg [⟨(some 16), none, .load true 2 (.t 3) false⟩,
            ⟨(some 17), none, .call 2 (.f 29) [(.t 16)]⟩,
            ⟨(some 15), none, .mv (.t 17)⟩] [2, 3, 15])
        (.cond (.t 15)
          (.seq (.rg [⟨(some 4), none, .mv (.c (.int .i64 (-1)))⟩] [4])
          .ret)
          .skip)))))))
  (.seq (.rg [⟨(some 18), none, .fad 1 (.t 2)⟩,
      ⟨(some 19), none, .load false 1 (.t 18) false⟩,
      ⟨(some 20), none, .fad 1 (.t 3)⟩,
      ⟨(some 21), none, .load false 1 (.t 20) false⟩,
      ⟨(some 22), none, .call 2 (.f 31) [(.t 19), (.t 21)]⟩,
      ⟨(some 4), none, .mv (.t 22)⟩] [4])
  .ret))),
  [.t 4]⟩

/- (*spillway/extreme.clock).moves -/
def an20 : Ann := [[]]
def fn20 : Vs.Fn := ⟨2,
  (.rg [⟨(some 4), none, .mv (.t 0)⟩,
      ⟨(some 5), none, .mv (.t 0)⟩,
      ⟨(some 6), none, .nilck (.t 5)⟩,
      ⟨(some 7), none, .fad 1 (.t 6)⟩,
      ⟨(some 8), none, .load false 1 (.t 7) false⟩,
      ⟨(some 9), none, .mv (.t 1)⟩,
      ⟨(some 10), none, .mn [(.t 9), (.c (.int .i64 1000000))]⟩,
      ⟨(some 11), none, .mx [(.t 8), (.t 10)]⟩,
      ⟨(some 12), none, .nilck (.t 4)⟩,
      ⟨(some 13), none, .fad 1 (.t 12)⟩,
      ⟨none, none, .store 1 (.t 13) (.t 11)⟩] []),
  []⟩

/- (*spillway/extreme.clock).gone -/
def an21 : Ann := [[0, 1], [4]]
def fn21 : Vs.Fn := ⟨2,
  (.seq (.rg [⟨(some 4), none, .mv (.c (.bool false))⟩] [0, 1])
  (.seq (.rg [⟨(some 5), none, .mv (.t 1)⟩,
      ⟨(some 6), none, .mv (.t 0)⟩,
      ⟨(some 7), none, .nilck (.t 6)⟩,
      ⟨(some 8), none, .fad 1 (.t 7)⟩,
      ⟨(some 9), none, .load false 1 (.t 8) false⟩,
      ⟨(some 10), none, .mv (.t 0)⟩,
      ⟨(some 11), none, .nilck (.t 10)⟩,
      ⟨(some 12), none, .fad 0 (.t 11)⟩,
      ⟨(some 13), none, .load false 1 (.t 12) false⟩,
      ⟨(some 14), none, .bin .sub (.t 9) (.t 13)⟩,
      ⟨(some 15), none, .bin .leq (.t 5) (.t 14)⟩,
      ⟨(some 4), none, .mv (.t 15)⟩] [4])
  .ret)),
  [.t 4]⟩

/- spillway/spillwayref2.Is -/
def an22 : Ann := [[1], [2]]
def fn22 : Vs.Fn := ⟨1,
  (.seq (.rg [⟨(some 1), none, .box 2 (.t 0)⟩,
      ⟨(some 2), none, .mv (.c (.bool false))⟩] [1])
  (.seq (.rg [⟨(some 3), none, .fad 0 (.t 1)⟩,
      ⟨(some 4), none, .load false 1 (.t 3) false⟩,
      ⟨(some 5), none, .un .not (.t 4)⟩,
      ⟨(some 6), none, .mv (.t 5)⟩,
      ⟨(some 7), some (6, true), .fad 1 (.t 1)⟩,
      ⟨(some 8), some (6, true), .load false 1 (.t 7) false⟩,
      ⟨(some 9), some (6, true), .bin .neq (.t 8) (.c (.int .i64 (-9223372036854775808)))⟩,
      ⟨(some 10), none, .pick (.t 6) (.t 9) (.c (.bool false))⟩,
      ⟨(some 11), none, .mv (.t 10)⟩,
      ⟨(some 12), some (11, false), .fad 0 (.t 1)⟩,
      ⟨(some 13), some (11, false), .load false 1 (.t 12) false⟩,
      ⟨(some 14), some (11, false), .mv (.t 13)⟩,
      ⟨(some 15), some (14, true), .fad 1 (.t 1)⟩,
      ⟨(some 16), some (14, true), .load false 1 (.t 15) false⟩,
      ⟨(some 17), some (14, true), .bin .eql (.t 16) (.c (.int .i64 0))⟩,
      ⟨(some 18), some (11, false), .pick (.t 14) (.t 17) (.c (.bool false))⟩,
      ⟨(some 19), none, .pick (.t 11) (.c (.bool true)) (.t 18)⟩,
      ⟨(some 2), none, .mv (.t 19)⟩] [2])
  .ret)),
  [.t 2]⟩

/- spillway/spillwayref2.Ovf -/
def an23 : Ann := [[0], [0]]
def fn23 : Vs.Fn := ⟨0,
  (.seq (.rg [⟨(some 0), none, .alloc [(.bool false), (.int .i64 0)]⟩] [0])
  (.seq (.rg [⟨(some 1), none, .build [(.bool false), (.int .i64 0)] [(0, 1, (.c (.bool true)))]⟩,
      ⟨none, none, .store 2 (.t 0) (.t 1)⟩] [0])
  .ret)),
  [.cell 0 true 2]⟩

/- (*spillway/extreme.clock).takes -/
def an24 : Ann := [[0, 1], [2], [0, 1, 5], [4], [0, 1, 21], [4], [], [4]]
def fn24 : Vs.Fn := ⟨2,
  (.seq (.rg [⟨(some 4), none, .mv (.c (.int .i64 0))⟩] [0, 1])
  (.seq (.block 0
    (.seq (.rg [⟨(some 6), none, .mv (.t 1)⟩,
        ⟨(some 7), none, .bin .lss (.t 6) (.c (.int .i64 0))⟩,
        ⟨(some 8), none, .mv (.t 7)⟩,
        ⟨(some 9), some (8, false), .mv (.t 1)⟩,
        ⟨(some 10), some (8, false), .mv (.t 0)⟩,
        ⟨(some 11), some (8, false), .nilck (.t 10)⟩,
        ⟨(some 12), some (8, false), .fad 1 (.t 11)⟩,
        ⟨(some 13), some (8, false), .load false 1 (.t 12) false⟩,
        ⟨(some 14), some (8, false), .bin .gtr (.t 9) (.t 13)⟩,
        ⟨(some 15), none, .pick (.t 8) (.c (.bool true)) (.t 14)⟩,
        ⟨(some 16), none, .mv (.t 15)⟩,
        ⟨(some 17), some (16, false), .mv (.t 0)⟩,
        ⟨(some 18), some (16, false), .mv (.t 1)⟩,
        ⟨(some 19), some (16, false), .call 2 (.f 21) [(.t 17), (.t 18)]⟩,
        ⟨(some 20), none, .pick (.t 16) (.c (.bool true)) (.t 19)⟩,
        ⟨(some 5), none, .mv (.t 20)⟩] [0, 1, 5])
    (.cond (.t 5)
      (.seq (.rg [⟨(some 4), none, .mv (.c (.int .i64 152))⟩] [4])
      .ret)
      (.seq (.rg [⟨(some 22), none, .mv (.t 1)⟩,
          ⟨(some 23), none, .mv (.t 0)⟩,
          ⟨(some 24), none, .nilck (.t 23)⟩,
          ⟨(some 25), none, .fad 2 (.t 24)⟩,
          ⟨(some 26), none, .load false 1 (.t 25) false⟩,
          ⟨(some 27), none, .bin .leq (.t 22) (.t 26)⟩,
          ⟨(some 21), none, .mv (.t 27)⟩] [0, 1, 21])
      (.cond (.t 21)
        (.seq (.rg [⟨(some 4), none, .mv (.c (.int .i64 150))⟩] [4])
        .ret)
        .skip)))))
  (.seq (.rg [⟨(some 28), none, .mv (.t 0)⟩,
      ⟨(some 29), none, .mv (.t 1)⟩,
      ⟨(some 30), none, .nilck (.t 28)⟩,
      ⟨(some 31), none, .fad 2 (.t 30)⟩,
      ⟨none, none, .store 1 (.t 31) (.t 29)⟩] [])
  (.seq (.rg [⟨(some 4), none, .mv (.c (.int .i64 0))⟩] [4])
  .ret)))),
  [.t 4]⟩

/- (*spillway/extreme.Extreme).beats -/
def an25 : Ann := [[0, 4, 5], [2], [0, 7], [7, 14], [6], [6]]
def fn25 : Vs.Fn := ⟨3,
  (.seq (.rg [⟨(some 4), none, .box 2 (.t 1)⟩,
      ⟨(some 5), none, .box 2 (.t 2)⟩,
      ⟨(some 6), none, .mv (.c (.bool false))⟩] [0, 4, 5])
  (.seq (.rg [⟨(some 8), none, .load true 2 (.t 4) false⟩,
      ⟨(some 9), none, .load true 2 (.t 5) false⟩,
      ⟨(some 10), none, .call 2 (.f 19) [(.t 8), (.t 9)]⟩,
      ⟨(some 7), none, .mv (.t 10)⟩] [0, 7])
  (.seq (.seq (.rg [⟨(some 11), none, .mv (.t 0)⟩,
      ⟨(some 12), none, .nilck (.t 11)⟩,
      ⟨(some 13), none, .fad 3 (.t 12)⟩,
      ⟨(some 14), none, .load false 1 (.t 13) false⟩] [7, 14])
  (.cond (.t 14)
    (.seq (.rg [⟨(some 15), none, .mv (.t 7)⟩,
        ⟨(some 16), none, .bin .geq (.t 15) (.c (.int .i64 0))⟩,
        ⟨(some 6), none, .mv (.t 16)⟩] [6])
    .ret)
    .skip))
  (.seq (.rg [⟨(some 17), none, .mv (.t 7)⟩,
      ⟨(some 18), none, .bin .leq (.t 17) (.c (.int .i64 0))⟩,
      ⟨(some 6), none, .mv (.t 18)⟩] [6])
  .ret)))),
  [.t 6]⟩

/- spillway/spillwayref2.Cmp -/
def an26 : Ann := [[2, 3], [2], [2], [2, 3, 5, 6], [2, 3, 5, 6, 21], [4], [2, 3, 6, 26], [4], [2, 3, 28], [4], [2, 3, 30], [4], [36], [4], [4]]
def fn26 : Vs.Fn := ⟨2,
  (.seq (.rg [⟨(some 2), none, .box 2 (.t 0)⟩,
      ⟨(some 3), none, .box 2 (.t 1)⟩,
      ⟨(some 4), none, .mv (.c (.int .i64 0))⟩] [2, 3])
  (.seq (.rg [⟨(some 7), none, .fad 0 (.t 2)⟩,
      ⟨(some 8), none, .load false 1 (.t 7) false⟩,
      ⟨(some 9), none, .mv (.t 8)⟩,
      ⟨(some 10), some (9, false), .load true 2 (.t 2) false⟩,
      ⟨(some 11), some (9, false), .call 2 (.f 22) [(.t 10)]⟩,
      ⟨(some 12), some (9, false), .un .not (.t 11)⟩,
      ⟨(some 13), none, .pick (.t 9) (.c (.bool true)) (.t 12)⟩,
      ⟨(some 14), none, .fad 0 (.t 3)⟩,
      ⟨(some 15), none, .load false 1 (.t 14) false⟩,
      ⟨(some 16), none, .mv (.t 15)⟩,
      ⟨(some 17), some (16, false), .load true 2 (.t 3) false⟩,
      ⟨(some 18), some (16, false), .call 2 (.f 22) [(.t 17)]⟩,
      ⟨(some 19), some (16, false), .un .not (.t 18)⟩,
      ⟨(some 20), none, .pick (.t 16) (.c (.bool true)) (.t 19)⟩,
      ⟨(some 5), none, .mv (.t 13)⟩,
      ⟨(some 6), none, .mv (.t 20)⟩] [2, 3, 5, 6])
  (.seq (.block 0
    (.seq (.rg [⟨(some 22), none, .mv (.t 5)⟩,
        ⟨(some 23), none, .mv (.t 22)⟩,
        ⟨(some 24), some (23, true), .mv (.t 6)⟩,
        ⟨(some 25), none, .pick (.t 23) (.t 24) (.c (.bool false))⟩,
        ⟨(some 21), none, .mv (.t 25)⟩] [2, 3, 5, 6, 21])
    (.cond (.t 21)
      (.seq (.rg [⟨(some 4), none, .mv (.c (.int .i64 0))⟩] [4])
      .ret)
      (.seq (.rg [⟨(some 27), none, .mv (.t 5)⟩,
          ⟨(some 26), none, .mv (.t 27)⟩] [2, 3, 6, 26])
      (.cond (.t 26)
        (.seq (.rg [⟨(some 4), none, .mv (.c (.int .i64 1))⟩] [4])
        .ret)
        (.seq (.rg [⟨(some 29), none, .mv (.t 6)⟩,
            ⟨(some 28), none, .mv (.t 29)⟩] [2, 3, 28])
        (.cond (.t 28)
          (.seq (.rg [⟨(some 4), none, .mv (.c (.int .i64 (-1)))⟩] [4])
          .ret)
          (.seq (.rg [⟨(some 31), none, .fad 1 (.t 2)⟩,
              ⟨(some 32), none, .load false 1 (.t 31) false⟩,
              ⟨(some 33), none, .fad 1 (.t 3)⟩,
              ⟨(some 34), none, .load false 1 (.t 33) false⟩,
              ⟨(some 35), none, .bin .lss (.t 32) (.t 34)⟩,
              ⟨(some 30), none, .mv (.t 35)⟩] [2, 3, 30])
          (.cond (.t 30)
            (.seq (.rg [⟨(some 4), none, .mv (.c (.int .i64 (-1)))⟩] [4])
            .ret)
            (.seq (.rg [⟨(some 37), none, .fad 1 (.t 2)⟩,
                ⟨(some 38), none, .load false 1 (.t 37) false⟩,
                ⟨(some 39), none, .fad 1 (.t 3)⟩,
                ⟨(some 40), none, .load false 1 (.t 39) false⟩,
                ⟨(some 41), none, .bin .gtr (.t 38) (.t 40)⟩,
                ⟨(some 36), none, .mv (.t 41)⟩] [36])
            (.cond (.t 36)
              (.seq (.rg [⟨(some 4), none, .mv (.c (.int .i64 1))⟩] [4])
              .ret)
              .skip)))))))))))
  (.seq (.rg [⟨(some 4), none, .mv (.c (.int .i64 0))⟩] [4])
  .ret)))),
  [.t 4]⟩

/- spillway/fix.scaled -/
def an27 : Ann := [[0, 1, 2, 3, 8], [2], [0, 3, 8, 9, 10], [0, 3, 8, 9, 10, 21], [2], [8], [2], [0, 8, 11], [0, 8, 11, 31], [2], [8], [8, 11, 33], [8], [8]]
def fn27 : Vs.Fn := ⟨4,
  (.seq (.rg [⟨(some 8), none, .alloc [(.bool false), (.int .i64 0)]⟩] [0, 1, 2, 3, 8])
  (.seq (.rg [⟨(some 14), none, .mv (.t 1)⟩,
      ⟨(some 15), none, .mv (.t 2)⟩,
      ⟨(some 16), none, .call 2 (.f 32) [(.t 14), (.t 15)]⟩,
      ⟨(some 13), none, .mv (.t 16)⟩,
      ⟨(some 17), none, .ext (.t 13) 0⟩,
      ⟨(some 18), none, .ext (.t 13) 1⟩,
      ⟨(some 9), none, .mv (.t 17)⟩,
      ⟨(some 10), none, .mv (.t 18)⟩] [0, 3, 8, 9, 10])
  (.seq (.seq (.rg [⟨(some 19), none, .mv (.t 9)⟩,
      ⟨(some 20), none, .mv (.t 3)⟩,
      ⟨(some 21), none, .bin .geq (.t 19) (.t 20)⟩] [0, 3, 8, 9, 10, 21])
  (.cond (.t 21)
    (.seq (.rg [⟨(some 22), none, .call 2 (.f 30) []⟩,
        ⟨none, none, .store 2 (.t 8) (.t 22)⟩] [8])
    .ret)
    .skip))
  (.seq (.rg [⟨(some 24), none, .mv (.t 9)⟩,
      ⟨(some 25), none, .mv (.t 10)⟩,
      ⟨(some 26), none, .mv (.t 3)⟩,
      ⟨(some 27), none, .call 2 (.f 33) [(.t 24), (.t 25), (.t 26)]⟩,
      ⟨(some 23), none, .mv (.t 27)⟩,
      ⟨(some 28), none, .ext (.t 23) 0⟩,
      ⟨(some 29), none, .ext (.t 23) 1⟩,
      ⟨(some 11), none, .mv (.t 28)⟩,
      ⟨(some 12), none, .mv (.t 29)⟩] [0, 8, 11])
  (.seq (.seq (.rg [⟨(some 30), none, .mv (.t 11)⟩,
      ⟨(some 31), none, .bin .gtr (.t 30) (.c (.int .u64 9223372036854775807))⟩] [0, 8, 11, 31])
  (.cond (.t 31)
    (.seq (.rg [⟨(some 32), none, .call 2 (.f 30) []⟩,
        ⟨none, none, .store 2 (.t 8) (.t 32)⟩] [8])
    .ret)
    .skip))
  (.seq (.seq (.rg [⟨(some 33), none, .mv (.t 0)⟩] [8, 11, 33])
  (.cond (.t 33)
    (.seq (.rg [⟨(some 34), none, .mv (.t 11)⟩,
        ⟨(some 35), none, .cvi .i64 (.t 34)⟩,
        ⟨(some 36), none, .un .neg (.t 35)⟩,
        ⟨(some 37), none, .build [(.bool false), (.int .i64 0)] [(1, 1, (.t 36))]⟩,
        ⟨none, none, .store 2 (.t 8) (.t 37)⟩] [8])
    .ret)
    .skip))
  (.seq (.rg [⟨(some 38), none, .mv (.t 11)⟩,
      ⟨(some 39), none, .cvi .i64 (.t 38)⟩,
      ⟨(some 40), none, .build [(.bool false), (.int .i64 0)] [(1, 1, (.t 39))]⟩,
      ⟨none, none, .store 2 (.t 8) (.t 40)⟩] [8])
  .ret))))))),
  [.cell 8 true 2]⟩

/- spillway/fix.size -/
def an28 : Ann := [[0], [0, 4], [2], [2]]
def fn28 : Vs.Fn := ⟨1,
  (.seq (.rg [⟨(some 2), none, .mv (.c (.int .u64 0))⟩] [0])
  (.seq (.seq (.rg [⟨(some 3), none, .mv (.t 0)⟩,
      ⟨(some 4), none, .bin .lss (.t 3) (.c (.int .i64 0))⟩] [0, 4])
  (.cond (.t 4)
    (.seq (.rg [⟨(some 5), none, .mv (.t 0)⟩,
        ⟨(some 6), none, .cvi .u64 (.t 5)⟩,
        ⟨(some 7), none, .un .neg (.t 6)⟩,
        ⟨(some 2), none, .mv (.t 7)⟩] [2])
    .ret)
    .skip))
  (.seq (.rg [⟨(some 8), none, .mv (.t 0)⟩,
      ⟨(some 9), none, .cvi .u64 (.t 8)⟩,
      ⟨(some 2), none, .mv (.t 9)⟩] [2])
  .ret))),
  [.t 2]⟩

/- spillway/fix.over -/
def an29 : Ann := [[1], [2]]
def fn29 : Vs.Fn := ⟨1,
  (.seq (.rg [⟨(some 1), none, .box 2 (.t 0)⟩,
      ⟨(some 2), none, .mv (.c (.bool false))⟩] [1])
  (.seq (.rg [⟨(some 3), none, .fad 0 (.t 1)⟩,
      ⟨(some 4), none, .load false 1 (.t 3) false⟩,
      ⟨(some 5), none, .mv (.t 4)⟩,
      ⟨(some 6), some (5, false), .fad 1 (.t 1)⟩,
      ⟨(some 7), some (5, false), .load false 1 (.t 6) false⟩,
      ⟨(some 8), some (5, false), .bin .eql (.t 7) (.c (.int .i64 (-9223372036854775808)))⟩,
      ⟨(some 9), none, .pick (.t 5) (.c (.bool true)) (.t 8)⟩,
      ⟨(some 2), none, .mv (.t 9)⟩] [2])
  .ret)),
  [.t 2]⟩

/- spillway/fix.ovf -/
def an30 : Ann := [[0], [0]]
def fn30 : Vs.Fn := ⟨0,
  (.seq (.rg [⟨(some 0), none, .alloc [(.bool false), (.int .i64 0)]⟩] [0])
  (.seq (.rg [⟨(some 1), none, .build [(.bool false), (.int .i64 0)] [(0, 1, (.c (.bool true)))]⟩,
      ⟨none, none, .store 2 (.t 0) (.t 1)⟩] [0])
  .ret)),
  [.cell 0 true 2]⟩

/- cmp.Compare[int64] -/
def an31 : Ann := [[0, 1], [2], [0, 1, 5], [2], [0, 1, 5, 6], [0, 1, 6, 11], [12], [4], [4], [0, 1, 13], [4], [0, 1, 16], [4], [19], [4], [4]]
def fn31 : Vs.Fn := ⟨2,
  (.seq (.rg [⟨(some 4), none, .mv (.c (.int .i64 0))⟩] [0, 1])
  (.seq (.rg [⟨(some 7), none, .mv (.t 0)⟩,
      ⟨(some 8), none, .call 2 (.f 34) [(.t 7)]⟩,
      ⟨(some 5), none, .mv (.t 8)⟩] [0, 1, 5])
  (.seq (.rg [⟨(some 9), none, .mv (.t 1)⟩,
      ⟨(some 10), none, .call 2 (.f 34) [(.t 9)]⟩,
      ⟨(some 6), none, .mv (.t 10)⟩] [0, 1, 5, 6])
  (.seq (.seq (.rg [⟨(some 11), none, .mv (.t 5)⟩] [0, 1, 6, 11])
  (.cond (.t 11)
    (.seq (.seq (.rg [⟨(some 12), none, .mv (.t 6)⟩] [12])
    (.cond (.t 12)
      (.seq (.rg [⟨(some 4), none, .mv (.c (.int .i64 0))⟩] [4])
      .ret)
      .skip))
    (.seq (.rg [⟨(some 4), none, .mv (.c (.int .i64 (-1)))⟩] [4])
    .ret))
    .skip))
  (.seq (.seq (.rg [⟨(some 13), none, .mv (.t 6)⟩] [0, 1, 13])
  (.cond (.t 13)
    (.seq (.rg [⟨(some 4), none, .mv (.c (.int .i64 1))⟩] [4])
    .ret)
    .skip))
  (.seq (.seq (.rg [⟨(some 14), none, .mv (.t 0)⟩,
      ⟨(some 15), none, .mv (.t 1)⟩,
      ⟨(some 16), none, .bin .lss (.t 14) (.t 15)⟩] [0, 1, 16])
  (.cond (.t 16)
    (.seq (.rg [⟨(some 4), none, .mv (.c (.int .i64 (-1)))⟩] [4])
    .ret)
    .skip))
  (.seq (.seq (.rg [⟨(some 17), none, .mv (.t 0)⟩,
      ⟨(some 18), none, .mv (.t 1)⟩,
      ⟨(some 19), none, .bin .gtr (.t 17) (.t 18)⟩] [19])
  (.cond (.t 19)
    (.seq (.rg [⟨(some 4), none, .mv (.c (.int .i64 1))⟩] [4])
    .ret)
    .skip))
  (.seq (.rg [⟨(some 4), none, .mv (.c (.int .i64 0))⟩] [4])
  .ret)))))))),
  [.t 4]⟩

/- math/bits.Mul64 -/
def an32 : Ann := [[0, 1], [0, 1, 6], [0, 1, 6, 7], [0, 1, 6, 7, 8], [0, 1, 6, 7, 8, 9], [0, 1, 6, 7, 8, 9, 10], [0, 1, 6, 7, 9, 11], [0, 1, 6, 7, 9, 11, 12], [0, 1, 6, 7, 9, 12, 13], [0, 1, 7, 9, 12, 13], [0, 1, 4], [4, 5]]
def fn32 : Vs.Fn := ⟨2,
  (.seq (.rg [⟨(some 4), none, .mv (.c (.int .u64 0))⟩,
      ⟨(some 5), none, .mv (.c (.int .u64 0))⟩] [0, 1])
  (.seq (.rg [⟨(some 14), none, .mv (.t 0)⟩,
      ⟨(some 15), none, .bin .and (.t 14) (.c (.int .u64 4294967295))⟩,
      ⟨(some 6), none, .mv (.t 15)⟩] [0, 1, 6])
  (.seq (.rg [⟨(some 16), none, .mv (.t 0)⟩,
      ⟨(some 17), none, .bin .shr (.t 16) (.c (.int .u64 32))⟩,
      ⟨(some 7), none, .mv (.t 17)⟩] [0, 1, 6, 7])
  (.seq (.rg [⟨(some 18), none, .mv (.t 1)⟩,
      ⟨(some 19), none, .bin .and (.t 18) (.c (.int .u64 4294967295))⟩,
      ⟨(some 8), none, .mv (.t 19)⟩] [0, 1, 6, 7, 8])
  (.seq (.rg [⟨(some 20), none, .mv (.t 1)⟩,
      ⟨(some 21), none, .bin .shr (.t 20) (.c (.int .u64 32))⟩,
      ⟨(some 9), none, .mv (.t 21)⟩] [0, 1, 6, 7, 8, 9])
  (.seq (.rg [⟨(some 22), none, .mv (.t 6)⟩,
      ⟨(some 23), none, .mv (.t 8)⟩,
      ⟨(some 24), none, .bin .mul (.t 22) (.t 23)⟩,
      ⟨(some 10), none, .mv (.t 24)⟩] [0, 1, 6, 7, 8, 9, 10])
  (.seq (.rg [⟨(some 25), none, .mv (.t 7)⟩,
      ⟨(some 26), none, .mv (.t 8)⟩,
      ⟨(some 27), none, .bin .mul (.t 25) (.t 26)⟩,
      ⟨(some 28), none, .mv (.t 10)⟩,
      ⟨(some 29), none, .bin .shr (.t 28) (.c (.int .u64 32))⟩,
      ⟨(some 30), none, .bin .add (.t 27) (.t 29)⟩,
      ⟨(some 11), none, .mv (.t 30)⟩] [0, 1, 6, 7, 9, 11])
  (.seq (.rg [⟨(some 31), none, .mv (.t 11)⟩,
      ⟨(some 32), none, .bin .and (.t 31) (.c (.int .u64 4294967295))⟩,
      ⟨(some 12), none, .mv (.t 32)⟩] [0, 1, 6, 7, 9, 11, 12])
  (.seq (.rg [⟨(some 33), none, .mv (.t 11)⟩,
      ⟨(some 34), none, .bin .shr (.t 33) (.c (.int .u64 32))⟩,
      ⟨(some 13), none, .mv (.t 34)⟩] [0, 1, 6, 7, 9, 12, 13])
  (.seq (.rg [⟨(some 35), none, .mv (.t 12)⟩,
      ⟨(some 36), none, .mv (.t 6)⟩,
      ⟨(some 37), none, .mv (.t 9)⟩,
      ⟨(some 38), none, .bin .mul (.t 36) (.t 37)⟩,
      ⟨(some 39), none, .bin .add (.t 35) (.t 38)⟩,
      ⟨(some 12), none, .mv (.t 39)⟩] [0, 1, 7, 9, 12, 13])
  (.seq (.rg [⟨(some 40), none, .mv (.t 7)⟩,
      ⟨(some 41), none, .mv (.t 9)⟩,
      ⟨(some 42), none, .bin .mul (.t 40) (.t 41)⟩,
      ⟨(some 43), none, .mv (.t 13)⟩,
      ⟨(some 44), none, .bin .add (.t 42) (.t 43)⟩,
      ⟨(some 45), none, .mv (.t 12)⟩,
      ⟨(some 46), none, .bin .shr (.t 45) (.c (.int .u64 32))⟩,
      ⟨(some 47), none, .bin .add (.t 44) (.t 46)⟩,
      ⟨(some 4), none, .mv (.t 47)⟩] [0, 1, 4])
  (.seq (.rg [⟨(some 48), none, .mv (.t 0)⟩,
      ⟨(some 49), none, .mv (.t 1)⟩,
      ⟨(some 50), none, .bin .mul (.t 48) (.t 49)⟩,
      ⟨(some 5), none, .mv (.t 50)⟩] [4, 5])
  .ret)))))))))))),
  [.t 4, .t 5]⟩

/- math/bits.Div64 -/
def an33 : Ann := [[0, 1, 2], [0, 1, 2, 20], [0, 1, 2], [0, 1, 2, 24], [0, 1, 2], [0, 1, 2, 27], [6, 7], [2], [0, 1, 2, 8], [0, 1, 2, 8], [0, 1, 2, 8, 9], [0, 1, 2, 8, 9, 10], [1, 2, 8, 9, 10, 11], [2, 8, 9, 10, 11, 12], [2, 8, 9, 10, 11, 12, 13], [2, 8, 9, 10, 11, 13, 14], [2, 8, 9, 10, 11, 13, 14, 15], [2, 8, 9, 10, 11, 13, 14, 15, 16], [2, 8, 9, 10, 11, 13, 14, 15, 16], [2, 8, 9, 10, 11, 13, 14, 15, 16, 78], [2, 8, 9, 10, 11, 13, 14, 15, 16], [2, 8, 9, 10, 11, 13, 14, 15, 16], [2, 8, 9, 10, 11, 13, 14, 15, 16, 85], [2, 8, 9, 10, 14, 15, 17], [2, 8, 9, 10, 14, 15, 17, 18], [2, 8, 9, 10, 14, 15, 16, 17, 18], [2, 8, 9, 10, 14, 15, 16, 17, 18], [2, 8, 9, 10, 14, 15, 16, 17, 18, 113], [2, 8, 9, 10, 14, 15, 16, 17, 18], [2, 8, 9, 10, 14, 15, 16, 17, 18], [2, 8, 9, 10, 14, 15, 16, 17, 18, 120], [6, 7]]
def fn33B0 : Cd :=
  (.seq (.seq (.rg [⟨(some 67), none, .mv (.t 15)⟩,
      ⟨(some 68), none, .bin .geq (.t 67) (.c (.int .u64 4294967296))⟩,
      ⟨(some 69), none, .mv (.t 68)⟩,
      ⟨(some 70), some (69, false), .mv (.t 15)⟩,
      ⟨(some 71), some (69, false), .mv (.t 10)⟩,
      ⟨(some 72), some (69, false), .bin .mul (.t 70) (.t 71)⟩,
      ⟨(some 73), some (69, false), .mv (.t 16)⟩,
      ⟨(some 74), some (69, false), .bin .mul (.c (.int .u64 4294967296)) (.t 73)⟩,
      ⟨(some 75), some (69, false), .mv (.t 13)⟩,
      ⟨(some 76), some (69, false), .bin .add (.t 74) (.t 75)⟩,
      ⟨(some 77), some (69, false), .bin .gtr (.t 72) (.t 76)⟩,
      ⟨(some 78), none, .pick (.t 69) (.c (.bool true)) (.t 77)⟩] [2, 8, 9, 10, 11, 13, 14, 15, 16, 78])
  (.cond (.t 78)
    .skip
    (.exit 0)))
  (.block 1
    (.seq (.rg [⟨(some 79), none, .mv (.t 15)⟩,
        ⟨(some 80), none, .bin .sub (.t 79) (.c (.int .u64 1))⟩,
        ⟨(some 15), none, .mv (.t 80)⟩] [2, 8, 9, 10, 11, 13, 14, 15, 16])
    (.seq (.rg [⟨(some 81), none, .mv (.t 16)⟩,
        ⟨(some 82), none, .mv (.t 9)⟩,
        ⟨(some 83), none, .bin .add (.t 81) (.t 82)⟩,
        ⟨(some 16), none, .mv (.t 83)⟩] [2, 8, 9, 10, 11, 13, 14, 15, 16])
    (.seq (.rg [⟨(some 84), none, .mv (.t 16)⟩,
        ⟨(some 85), none, .bin .geq (.t 84) (.c (.int .u64 4294967296))⟩] [2, 8, 9, 10, 11, 13, 14, 15, 16, 85])
    (.cond (.t 85)
      (.exit 0)
      .skip))))))
def fn33L0 : Cd := .loop [2, 8, 9, 10, 11, 13, 14, 15, 16] fn33B0
def fn33B1 : Cd :=
  (.seq (.seq (.rg [⟨(some 102), none, .mv (.t 18)⟩,
      ⟨(some 103), none, .bin .geq (.t 102) (.c (.int .u64 4294967296))⟩,
      ⟨(some 104), none, .mv (.t 103)⟩,
      ⟨(some 105), some (104, false), .mv (.t 18)⟩,
      ⟨(some 106), some (104, false), .mv (.t 10)⟩,
      ⟨(some 107), some (104, false), .bin .mul (.t 105) (.t 106)⟩,
      ⟨(some 108), some (104, false), .mv (.t 16)⟩,
      ⟨(some 109), some (104, false), .bin .mul (.c (.int .u64 4294967296)) (.t 108)⟩,
      ⟨(some 110), some (104, false), .mv (.t 14)⟩,
      ⟨(some 111), some (104, false), .bin .add (.t 109) (.t 110)⟩,
      ⟨(some 112), some (104, false), .bin .gtr (.t 107) (.t 111)⟩,
      ⟨(some 113), none, .pick (.t 104) (.c (.bool true)) (.t 112)⟩] [2, 8, 9, 10, 14, 15, 16, 17, 18, 113])
  (.cond (.t 113)
    .skip
    (.exit 2)))
  (.block 3
    (.seq (.rg [⟨(some 114), none, .mv (.t 18)⟩,
        ⟨(some 115), none, .bin .sub (.t 114) (.c (.int .u64 1))⟩,
        ⟨(some 18), none, .mv (.t 115)⟩] [2, 8, 9, 10, 14, 15, 16, 17, 18])
    (.seq (.rg [⟨(some 116), none, .mv (.t 16)⟩,
        ⟨(some 117), none, .mv (.t 9)⟩,
        ⟨(some 118), none, .bin .add (.t 116) (.t 117)⟩,
        ⟨(some 16), none, .mv (.t 118)⟩] [2, 8, 9, 10, 14, 15, 16, 17, 18])
    (.seq (.rg [⟨(some 119), none, .mv (.t 16)⟩,
        ⟨(some 120), none, .bin .geq (.t 119) (.c (.int .u64 4294967296))⟩] [2, 8, 9, 10, 14, 15, 16, 17, 18, 120])
    (.cond (.t 120)
      (.exit 2)
      .skip))))))
def fn33L1 : Cd := .loop [2, 8, 9, 10, 14, 15, 16, 17, 18] fn33B1
def fn33 : Vs.Fn := ⟨3,
  (.seq (.rg [⟨(some 6), none, .mv (.c (.int .u64 0))⟩,
      ⟨(some 7), none, .mv (.c (.int .u64 0))⟩] [0, 1, 2])
  (.seq (.seq (.rg [⟨(some 19), none, .mv (.t 2)⟩,
      ⟨(some 20), none, .bin .eql (.t 19) (.c (.int .u64 0))⟩] [0, 1, 2, 20])
  (.cond (.t 20)
    .bad
    .skip))
  (.seq (.seq (.rg [⟨(some 22), none, .mv (.t 2)⟩,
      ⟨(some 23), none, .mv (.t 0)⟩,
      ⟨(some 24), none, .bin .leq (.t 22) (.t 23)⟩] [0, 1, 2, 24])
  (.cond (.t 24)
    .bad
    .skip))
  (.seq (.seq (.rg [⟨(some 26), none, .mv (.t 0)⟩,
      ⟨(some 27), none, .bin .eql (.t 26) (.c (.int .u64 0))⟩] [0, 1, 2, 27])
  (.cond (.t 27)
    (.seq (.rg [⟨(some 28), none, .mv (.t 1)⟩,
        ⟨(some 29), none, .mv (.t 2)⟩,
        ⟨(some 30), none, .bin .quo (.t 28) (.t 29)⟩,
        ⟨(some 31), none, .mv (.t 1)⟩,
        ⟨(some 32), none, .mv (.t 2)⟩,
        ⟨(some 33), none, .bin .rem (.t 31) (.t 32)⟩,
        ⟨(some 6), none, .mv (.t 30)⟩,
        ⟨(some 7), none, .mv (.t 33)⟩] [6, 7])
    .ret)
    .skip))
  (.seq (.rg [⟨(some 34), none, .mv (.t 2)⟩,
      ⟨(some 35), none, .call 2 (.f 35) [(.t 34)]⟩,
      ⟨(some 36), none, .cvi .u64 (.t 35)⟩,
      ⟨(some 8), none, .mv (.t 36)⟩] [0, 1, 2, 8])
  (.seq (.rg [⟨(some 37), none, .mv (.t 2)⟩,
      ⟨(some 38), none, .mv (.t 8)⟩,
      ⟨(some 39), none, .bin .shl (.t 37) (.t 38)⟩,
      ⟨(some 2), none, .mv (.t 39)⟩] [0, 1, 2, 8])
  (.seq (.rg [⟨(some 40), none, .mv (.t 2)⟩,
      ⟨(some 41), none, .bin .shr (.t 40) (.c (.int .u64 32))⟩,
      ⟨(some 9), none, .mv (.t 41)⟩] [0, 1, 2, 8, 9])
  (.seq (.rg [⟨(some 42), none, .mv (.t 2)⟩,
      ⟨(some 43), none, .bin .and (.t 42) (.c (.int .u64 4294967295))⟩,
      ⟨(some 10), none, .mv (.t 43)⟩] [0, 1, 2, 8, 9, 10])
  (.seq (.rg [⟨(some 44), none, .mv (.t 0)⟩,
      ⟨(some 45), none, .mv (.t 8)⟩,
      ⟨(some 46), none, .bin .shl (.t 44) (.t 45)⟩,
      ⟨(some 47), none, .mv (.t 1)⟩,
      ⟨(some 48), none, .mv (.t 8)⟩,
      ⟨(some 49), none, .bin .sub (.c (.int .u64 64)) (.t 48)⟩,
      ⟨(some 50), none, .bin .shr (.t 47) (.t 49)⟩,
      ⟨(some 51), none, .bin .or (.t 46) (.t 50)⟩,
      ⟨(some 11), none, .mv (.t 51)⟩] [1, 2, 8, 9, 10, 11])
  (.seq (.rg [⟨(some 52), none, .mv (.t 1)⟩,
      ⟨(some 53), none, .mv (.t 8)⟩,
      ⟨(some 54), none, .bin .shl (.t 52) (.t 53)⟩,
      ⟨(some 12), none, .mv (.t 54)⟩] [2, 8, 9, 10, 11, 12])
  (.seq (.rg [⟨(some 55), none, .mv (.t 12)⟩,
      ⟨(some 56), none, .bin .shr (.t 55) (.c (.int .u64 32))⟩,
      ⟨(some 13), none, .mv (.t 56)⟩] [2, 8, 9, 10, 11, 12, 13])
  (.seq (.rg [⟨(some 57), none, .mv (.t 12)⟩,
      ⟨(some 58), none, .bin .and (.t 57) (.c (.int .u64 4294967295))⟩,
      ⟨(some 14), none, .mv (.t 58)⟩] [2, 8, 9, 10, 11, 13, 14])
  (.seq (.rg [⟨(some 59), none, .mv (.t 11)⟩,
      ⟨(some 60), none, .mv (.t 9)⟩,
      ⟨(some 61), none, .bin .quo (.t 59) (.t 60)⟩,
      ⟨(some 15), none, .mv (.t 61)⟩] [2, 8, 9, 10, 11, 13, 14, 15])
  (.seq (.rg [⟨(some 62), none, .mv (.t 11)⟩,
      ⟨(some 63), none, .mv (.t 15)⟩,
      ⟨(some 64), none, .mv (.t 9)⟩,
      ⟨(some 65), none, .bin .mul (.t 63) (.t 64)⟩,
      ⟨(some 66), none, .bin .sub (.t 62) (.t 65)⟩,
      ⟨(some 16), none, .mv (.t 66)⟩] [2, 8, 9, 10, 11, 13, 14, 15, 16])
  (.seq (.block 0
    fn33L0)
  (.seq (.rg [⟨(some 86), none, .mv (.t 11)⟩,
      ⟨(some 87), none, .bin .mul (.t 86) (.c (.int .u64 4294967296))⟩,
      ⟨(some 88), none, .mv (.t 13)⟩,
      ⟨(some 89), none, .bin .add (.t 87) (.t 88)⟩,
      ⟨(some 90), none, .mv (.t 15)⟩,
      ⟨(some 91), none, .mv (.t 2)⟩,
      ⟨(some 92), none, .bin .mul (.t 90) (.t 91)⟩,
      ⟨(some 93), none, .bin .sub (.t 89) (.t 92)⟩,
      ⟨(some 17), none, .mv (.t 93)⟩] [2, 8, 9, 10, 14, 15, 17])
  (.seq (.rg [⟨(some 94), none, .mv (.t 17)⟩,
      ⟨(some 95), none, .mv (.t 9)⟩,
      ⟨(some 96), none, .bin .quo (.t 94) (.t 95)⟩,
      ⟨(some 18), none, .mv (.t 96)⟩] [2, 8, 9, 10, 14, 15, 17, 18])
  (.seq (.rg [⟨(some 97), none, .mv (.t 17)⟩,
      ⟨(some 98), none, .mv (.t 18)⟩,
      ⟨(some 99), none, .mv (.t 9)⟩,
      ⟨(some 100), none, .bin .mul (.t 98) (.t 99)⟩,
      ⟨(some 101), none, .bin .sub (.t 97) (.t 100)⟩,
      ⟨(some 16), none, .mv (.t 101)⟩] [2, 8, 9, 10, 14, 15, 16, 17, 18])
  (.seq (.block 2
    fn33L1)
  (.seq (.rg [⟨(some 121), none, .mv (.t 15)⟩,
      ⟨(some 122), none, .bin .mul (.t 121) (.c (.int .u64 4294967296))⟩,
      ⟨(some 123), none, .mv (.t 18)⟩,
      ⟨(some 124), none, .bin .add (.t 122) (.t 123)⟩,
      ⟨(some 125), none, .mv (.t 17)⟩,
      ⟨(some 126), none, .bin .mul (.t 125) (.c (.int .u64 4294967296))⟩,
      ⟨(some 127), none, .mv (.t 14)⟩,
      ⟨(some 128), none, .bin .add (.t 126) (.t 127)⟩,
      ⟨(some 129), none, .mv (.t 18)⟩,
      ⟨(some 130), none, .mv (.t 2)⟩,
      ⟨(some 131), none, .bin .mul (.t 129) (.t 130)⟩,
      ⟨(some 132), none, .bin .sub (.t 128) (.t 131)⟩,
      ⟨(some 133), none, .mv (.t 8)⟩,
      ⟨(some 134), none, .bin .shr (.t 132) (.t 133)⟩,
      ⟨(some 6), none, .mv (.t 124)⟩,
      ⟨(some 7), none, .mv (.t 134)⟩] [6, 7])
  .ret)))))))))))))))))))),
  [.t 6, .t 7]⟩

/- cmp.isNaN[int64] -/
def an34 : Ann := [[0], [2]]
def fn34 : Vs.Fn := ⟨1,
  (.seq (.rg [⟨(some 2), none, .mv (.c (.bool false))⟩] [0])
  (.seq (.rg [⟨(some 3), none, .mv (.t 0)⟩,
      ⟨(some 4), none, .mv (.t 0)⟩,
      ⟨(some 5), none, .bin .neq (.t 3) (.t 4)⟩,
      ⟨(some 2), none, .mv (.t 5)⟩] [2])
  .ret)),
  [.t 2]⟩

/- math/bits.LeadingZeros64 -/
def an35 : Ann := [[0], [2], [2]]
def fn35 : Vs.Fn := ⟨1,
  (.seq (.rg [⟨(some 2), none, .mv (.c (.int .i64 0))⟩] [0])
  (.seq (.rg [⟨(some 3), none, .mv (.t 0)⟩,
      ⟨(some 4), none, .call 2 (.f 36) [(.t 3)]⟩,
      ⟨(some 5), none, .bin .sub (.c (.int .i64 64)) (.t 4)⟩,
      ⟨(some 2), none, .mv (.t 5)⟩] [2])
  .ret)),
  [.t 2]⟩

/- math/bits.Len64 -/
def an36 : Ann := [[0, 2], [0, 2, 4], [0], [0, 2], [0, 2, 8], [0, 2], [0, 2], [0, 2, 14], [0, 2], [0, 2], [2]]
def fn36 : Vs.Fn := ⟨1,
  (.seq (.rg [⟨(some 2), none, .mv (.c (.int .i64 0))⟩] [0, 2])
  (.seq (.seq (.rg [⟨(some 3), none, .mv (.t 0)⟩,
      ⟨(some 4), none, .bin .geq (.t 3) (.c (.int .u64 4294967296))⟩] [0, 2, 4])
  (.cond (.t 4)
    (.seq (.rg [⟨(some 5), none, .mv (.t 0)⟩,
        ⟨(some 6), none, .bin .shr (.t 5) (.c (.int .u64 32))⟩,
        ⟨(some 0), none, .mv (.t 6)⟩] [0])
    (.rg [⟨(some 2), none, .mv (.c (.int .i64 32))⟩] [0, 2]))
    .skip))
  (.seq (.seq (.rg [⟨(some 7), none, .mv (.t 0)⟩,
      ⟨(some 8), none, .bin .geq (.t 7) (.c (.int .u64 65536))⟩] [0, 2, 8])
  (.cond (.t 8)
    (.seq (.rg [⟨(some 9), none, .mv (.t 0)⟩,
        ⟨(some 10), none, .bin .shr (.t 9) (.c (.int .u64 16))⟩,
        ⟨(some 0), none, .mv (.t 10)⟩] [0, 2])
    (.rg [⟨(some 11), none, .mv (.t 2)⟩,
        ⟨(some 12), none, .bin .add (.t 11) (.c (.int .i64 16))⟩,
        ⟨(some 2), none, .mv (.t 12)⟩] [0, 2]))
    .skip))
  (.seq (.seq (.rg [⟨(some 13), none, .mv (.t 0)⟩,
      ⟨(some 14), none, .bin .geq (.t 13) (.c (.int .u64 256))⟩] [0, 2, 14])
  (.cond (.t 14)
    (.seq (.rg [⟨(some 15), none, .mv (.t 0)⟩,
        ⟨(some 16), none, .bin .shr (.t 15) (.c (.int .u64 8))⟩,
        ⟨(some 0), none, .mv (.t 16)⟩] [0, 2])
    (.rg [⟨(some 17), none, .mv (.t 2)⟩,
        ⟨(some 18), none, .bin .add (.t 17) (.c (.int .i64 8))⟩,
        ⟨(some 2), none, .mv (.t 18)⟩] [0, 2]))
    .skip))
  (.seq (.rg [⟨(some 19), none, .mv (.t 2)⟩,
      ⟨(some 20), none, .mv (.t 0)⟩,
      ⟨(some 21), none, .cvi .u8 (.t 20)⟩,
      ⟨(some 22), none, .ist (.c (.string ⟨#[0, 1, 2, 2, 3, 3, 3, 3, 4, 4, 4, 4, 4, 4, 4, 4, 5, 5, 5, 5, 5, 5, 5, 5, 5, 5, 5, 5, 5, 5, 5, 5, 6, 6, 6, 6, 6, 6, 6, 6, 6, 6, 6, 6, 6, 6, 6, 6, 6, 6, 6, 6, 6, 6, 6, 6, 6, 6, 6, 6, 6, 6, 6, 6, 7, 7, 7, 7, 7, 7, 7, 7, 7, 7, 7, 7, 7, 7, 7, 7, 7, 7, 7, 7, 7, 7, 7, 7, 7, 7, 7, 7, 7, 7, 7, 7, 7, 7, 7, 7, 7, 7, 7, 7, 7, 7, 7, 7, 7, 7, 7, 7, 7, 7, 7, 7, 7, 7, 7, 7, 7, 7, 7, 7, 7, 7, 7, 7, 8, 8, 8, 8, 8, 8, 8, 8, 8, 8, 8, 8, 8, 8, 8, 8, 8, 8, 8, 8, 8, 8, 8, 8, 8, 8, 8, 8, 8, 8, 8, 8, 8, 8, 8, 8, 8, 8, 8, 8, 8, 8, 8, 8, 8, 8, 8, 8, 8, 8, 8, 8, 8, 8, 8, 8, 8, 8, 8, 8, 8, 8, 8, 8, 8, 8, 8, 8, 8, 8, 8, 8, 8, 8, 8, 8, 8, 8, 8, 8, 8, 8, 8, 8, 8, 8, 8, 8, 8, 8, 8, 8, 8, 8, 8, 8, 8, 8, 8, 8, 8, 8, 8, 8, 8, 8, 8, 8, 8, 8, 8, 8, 8, 8, 8, 8, 8, 8, 8, 8, 8, 8, 8, 8, 8, 8, 8, 8]⟩)) (.t 21)⟩,
      ⟨(some 23), none, .cvi .i64 (.t 22)⟩,
      ⟨(some 24), none, .bin .add (.t 19) (.t 23)⟩,
      ⟨(some 2), none, .mv (.t 24)⟩] [2])
  .ret))))),
  [.t 2]⟩

def pg : Pg := fun f => match f with
  | 3 => some fn3
  | 4 => some fn4
  | 5 => some fn5
  | 6 => some fn6
  | 7 => some fn7
  | 8 => some fn8
  | 9 => some fn9
  | 10 => some fn10
  | 11 => some fn11
  | 12 => some fn12
  | 13 => some fn13
  | 14 => some fn14
  | 15 => some fn15
  | 16 => some fn16
  | 17 => some fn17
  | 18 => some fn18
  | 19 => some fn19
  | 20 => some fn20
  | 21 => some fn21
  | 22 => some fn22
  | 23 => some fn23
  | 24 => some fn24
  | 25 => some fn25
  | 26 => some fn26
  | 27 => some fn27
  | 28 => some fn28
  | 29 => some fn29
  | 30 => some fn30
  | 31 => some fn31
  | 32 => some fn32
  | 33 => some fn33
  | 34 => some fn34
  | 35 => some fn35
  | 36 => some fn36
  | _ => none

theorem cfn3 : cFn Try.prog an3 Try.f3 = some fn3 := by kernel_rfl
theorem cfn4 : cFn Try.prog an4 Try.f4 = some fn4 := by kernel_rfl
theorem cfn5 : cFn Try.prog an5 Try.f5 = some fn5 := by kernel_rfl
theorem cfn6 : cFn Try.prog an6 Try.f6 = some fn6 := by kernel_rfl
theorem cfn7 : cFn Try.prog an7 Try.f7 = some fn7 := by kernel_rfl
theorem cfn8 : cFn Try.prog an8 Try.f8 = some fn8 := by kernel_rfl
theorem cfn9 : cFn Try.prog an9 Try.f9 = some fn9 := by kernel_rfl
theorem cfn10 : cFn Try.prog an10 Try.f10 = some fn10 := by kernel_rfl
theorem cfn11 : cFn Try.prog an11 Try.f11 = some fn11 := by kernel_rfl
theorem cfn12 : cFn Try.prog an12 Try.f12 = some fn12 := by kernel_rfl
theorem cfn13 : cFn Try.prog an13 Try.f13 = some fn13 := by kernel_rfl
theorem cfn14 : cFn Try.prog an14 Try.f14 = some fn14 := by kernel_rfl
theorem cfn15 : cFn Try.prog an15 Try.f15 = some fn15 := by kernel_rfl
theorem cfn16 : cFn Try.prog an16 Try.f16 = some fn16 := by kernel_rfl
theorem cfn17 : cFn Try.prog an17 Try.f17 = some fn17 := by kernel_rfl
theorem cfn18 : cFn Try.prog an18 Try.f18 = some fn18 := by kernel_rfl
theorem cfn19 : cFn Try.prog an19 Try.f19 = some fn19 := by kernel_rfl
theorem cfn20 : cFn Try.prog an20 Try.f20 = some fn20 := by kernel_rfl
theorem cfn21 : cFn Try.prog an21 Try.f21 = some fn21 := by kernel_rfl
theorem cfn22 : cFn Try.prog an22 Try.f22 = some fn22 := by kernel_rfl
theorem cfn23 : cFn Try.prog an23 Try.f23 = some fn23 := by kernel_rfl
theorem cfn24 : cFn Try.prog an24 Try.f24 = some fn24 := by kernel_rfl
theorem cfn25 : cFn Try.prog an25 Try.f25 = some fn25 := by kernel_rfl
theorem cfn26 : cFn Try.prog an26 Try.f26 = some fn26 := by kernel_rfl
theorem cfn27 : cFn Try.prog an27 Try.f27 = some fn27 := by kernel_rfl
theorem cfn28 : cFn Try.prog an28 Try.f28 = some fn28 := by kernel_rfl
theorem cfn29 : cFn Try.prog an29 Try.f29 = some fn29 := by kernel_rfl
theorem cfn30 : cFn Try.prog an30 Try.f30 = some fn30 := by kernel_rfl
theorem cfn31 : cFn Try.prog an31 Try.f31 = some fn31 := by kernel_rfl
theorem cfn32 : cFn Try.prog an32 Try.f32 = some fn32 := by kernel_rfl
theorem cfn33 : cFn Try.prog an33 Try.f33 = some fn33 := by kernel_rfl
theorem cfn34 : cFn Try.prog an34 Try.f34 = some fn34 := by kernel_rfl
theorem cfn35 : cFn Try.prog an35 Try.f35 = some fn35 := by kernel_rfl
theorem cfn36 : cFn Try.prog an36 Try.f36 = some fn36 := by kernel_rfl

theorem pgOk : PgOk Try.prog pg := by
  intro f fn h
  unfold pg at h
  split at h
  · cases h; exact ⟨Try.f3, an3, Try.func3, of_decide_eq_true (by kernel_rfl), cfn3⟩
  · cases h; exact ⟨Try.f4, an4, Try.func4, of_decide_eq_true (by kernel_rfl), cfn4⟩
  · cases h; exact ⟨Try.f5, an5, Try.func5, of_decide_eq_true (by kernel_rfl), cfn5⟩
  · cases h; exact ⟨Try.f6, an6, Try.func6, of_decide_eq_true (by kernel_rfl), cfn6⟩
  · cases h; exact ⟨Try.f7, an7, Try.func7, of_decide_eq_true (by kernel_rfl), cfn7⟩
  · cases h; exact ⟨Try.f8, an8, Try.func8, of_decide_eq_true (by kernel_rfl), cfn8⟩
  · cases h; exact ⟨Try.f9, an9, Try.func9, of_decide_eq_true (by kernel_rfl), cfn9⟩
  · cases h; exact ⟨Try.f10, an10, Try.func10, of_decide_eq_true (by kernel_rfl), cfn10⟩
  · cases h; exact ⟨Try.f11, an11, Try.func11, of_decide_eq_true (by kernel_rfl), cfn11⟩
  · cases h; exact ⟨Try.f12, an12, Try.func12, of_decide_eq_true (by kernel_rfl), cfn12⟩
  · cases h; exact ⟨Try.f13, an13, Try.func13, of_decide_eq_true (by kernel_rfl), cfn13⟩
  · cases h; exact ⟨Try.f14, an14, Try.func14, of_decide_eq_true (by kernel_rfl), cfn14⟩
  · cases h; exact ⟨Try.f15, an15, Try.func15, of_decide_eq_true (by kernel_rfl), cfn15⟩
  · cases h; exact ⟨Try.f16, an16, Try.func16, of_decide_eq_true (by kernel_rfl), cfn16⟩
  · cases h; exact ⟨Try.f17, an17, Try.func17, of_decide_eq_true (by kernel_rfl), cfn17⟩
  · cases h; exact ⟨Try.f18, an18, Try.func18, of_decide_eq_true (by kernel_rfl), cfn18⟩
  · cases h; exact ⟨Try.f19, an19, Try.func19, of_decide_eq_true (by kernel_rfl), cfn19⟩
  · cases h; exact ⟨Try.f20, an20, Try.func20, of_decide_eq_true (by kernel_rfl), cfn20⟩
  · cases h; exact ⟨Try.f21, an21, Try.func21, of_decide_eq_true (by kernel_rfl), cfn21⟩
  · cases h; exact ⟨Try.f22, an22, Try.func22, of_decide_eq_true (by kernel_rfl), cfn22⟩
  · cases h; exact ⟨Try.f23, an23, Try.func23, of_decide_eq_true (by kernel_rfl), cfn23⟩
  · cases h; exact ⟨Try.f24, an24, Try.func24, of_decide_eq_true (by kernel_rfl), cfn24⟩
  · cases h; exact ⟨Try.f25, an25, Try.func25, of_decide_eq_true (by kernel_rfl), cfn25⟩
  · cases h; exact ⟨Try.f26, an26, Try.func26, of_decide_eq_true (by kernel_rfl), cfn26⟩
  · cases h; exact ⟨Try.f27, an27, Try.func27, of_decide_eq_true (by kernel_rfl), cfn27⟩
  · cases h; exact ⟨Try.f28, an28, Try.func28, of_decide_eq_true (by kernel_rfl), cfn28⟩
  · cases h; exact ⟨Try.f29, an29, Try.func29, of_decide_eq_true (by kernel_rfl), cfn29⟩
  · cases h; exact ⟨Try.f30, an30, Try.func30, of_decide_eq_true (by kernel_rfl), cfn30⟩
  · cases h; exact ⟨Try.f31, an31, Try.func31, of_decide_eq_true (by kernel_rfl), cfn31⟩
  · cases h; exact ⟨Try.f32, an32, Try.func32, of_decide_eq_true (by kernel_rfl), cfn32⟩
  · cases h; exact ⟨Try.f33, an33, Try.func33, of_decide_eq_true (by kernel_rfl), cfn33⟩
  · cases h; exact ⟨Try.f34, an34, Try.func34, of_decide_eq_true (by kernel_rfl), cfn34⟩
  · cases h; exact ⟨Try.f35, an35, Try.func35, of_decide_eq_true (by kernel_rfl), cfn35⟩
  · cases h; exact ⟨Try.f36, an36, Try.func36, of_decide_eq_true (by kernel_rfl), cfn36⟩
  · cases h
end Go.Proofs.Ytddbpbkphimdkaa
