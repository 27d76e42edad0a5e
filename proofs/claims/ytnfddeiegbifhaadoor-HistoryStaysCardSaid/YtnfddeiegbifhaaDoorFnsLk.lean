import Derived.Test.YtnfddeiegbifhaaDoorChecked
import Derived.Test.YtnfddeiegbifhaaDoorVsIns3
namespace Go.Proofs.YtnfddeiegbifhaaDoor
open Go Go.Vs
set_option maxRecDepth 100000

/- spillway/spillwaylaw16.HistoryRefuses -/
def an3 : Ann := [[0, 1, 2], [2], [0, 1, 2, 12], [6], [0, 1, 2, 15], [6], [0], [0, 1, 2, 7], [1, 2, 7, 8], [0], [1, 2, 7, 8], [2], [0], [1, 2, 7, 8, 9], [1, 2, 7, 9, 10], [1, 2, 7, 9, 10, 42], [2], [2], [0], [2], [6], [2], [6]]
def fn3 : Vs.Fn := ⟨3,
  (.seq (.rg [⟨(some 6), none, .mv (.c (.bool false))⟩] [0, 1, 2])
  (.seq (.seq (.rg [⟨(some 11), none, .call 2 (.f 6) []⟩,
      ⟨(some 12), none, .un .not (.t 11)⟩] [0, 1, 2, 12])
  (.cond (.t 12)
    (.seq (.rg [⟨(some 6), none, .mv (.c (.bool false))⟩] [6])
    .ret)
    .skip))
  (.seq (.seq (.rg [⟨(some 13), none, .mv (.t 2)⟩,
      ⟨(some 14), none, .len false (.t 13)⟩,
      ⟨(some 15), none, .bin .gtr (.t 14) (.c (.int .i64 10))⟩] [0, 1, 2, 15])
  (.cond (.t 15)
    (.seq (.rg [⟨(some 6), none, .mv (.c (.bool true))⟩] [6])
    .ret)
    .skip))
  (.seq (.rg [⟨(some 16), none, .call 0 (.f 7) []⟩,
      ⟨(some 7), none, .mv (.t 16)⟩] [0, 1, 2, 7])
  (.seq (.rg [⟨(some 17), none, .mv (.t 0)⟩,
      ⟨(some 18), none, .cvi .i64 (.t 17)⟩,
      ⟨(some 8), none, .mv (.t 18)⟩] [1, 2, 7, 8])
  (.seq (.rg [⟨(some 19), none, .mv (.t 7)⟩,
      ⟨(some 20), none, .mv (.t 8)⟩,
      ⟨(some 21), none, .call 0 (.f 8) [(.t 19), (.t 20)]⟩] [1, 2, 7, 8])
  (.seq (.rg [⟨(some 22), none, .mv (.t 7)⟩,
      ⟨(some 23), none, .mv (.t 2)⟩,
      ⟨(some 24), none, .mv (.t 1)⟩,
      ⟨(some 25), none, .call 2 (.f 10) [(.c (.int .i64 1))]⟩,
      ⟨(some 26), none, .build [(.int .i64 0), (.bool false), (.int .i64 0)] [(0, 1, (.t 24)), (1, 2, (.t 25))]⟩,
      ⟨(some 27), none, .call 0 (.f 9) [(.t 22), (.t 23), (.t 26)]⟩,
      ⟨(some 9), none, .mv (.t 27)⟩] [1, 2, 7, 8, 9])
  (.seq (.rg [⟨(some 28), none, .mv (.t 1)⟩,
      ⟨(some 29), none, .bin .geq (.t 28) (.c (.int .i64 0))⟩,
      ⟨(some 30), none, .mv (.t 29)⟩,
      ⟨(some 31), some (30, true), .mv (.t 1)⟩,
      ⟨(some 32), some (30, true), .mv (.t 8)⟩,
      ⟨(some 33), some (30, true), .bin .leq (.t 31) (.t 32)⟩,
      ⟨(some 34), none, .pick (.t 30) (.t 33) (.c (.bool false))⟩,
      ⟨(some 35), none, .mv (.t 34)⟩,
      ⟨(some 36), some (35, true), .mv (.t 1)⟩,
      ⟨(some 37), some (35, true), .mv (.t 8)⟩,
      ⟨(some 38), some (35, true), .bin .sub (.t 37) (.c (.int .i64 100))⟩,
      ⟨(some 39), some (35, true), .bin .gtr (.t 36) (.t 38)⟩,
      ⟨(some 40), none, .pick (.t 35) (.t 39) (.c (.bool false))⟩,
      ⟨(some 10), none, .mv (.t 40)⟩] [1, 2, 7, 9, 10])
  (.seq (.seq (.rg [⟨(some 41), none, .mv (.t 9)⟩,
      ⟨(some 42), none, .bin .eql (.t 41) (.c (.int .i64 0))⟩] [1, 2, 7, 9, 10, 42])
  (.cond (.t 42)
    (.seq (.rg [⟨(some 43), none, .mv (.t 10)⟩,
        ⟨(some 44), none, .mv (.t 43)⟩,
        ⟨(some 45), some (44, true), .mv (.t 7)⟩,
        ⟨(some 46), some (44, true), .call 2 (.f 11) [(.t 45)]⟩,
        ⟨(some 47), some (44, true), .bin .eql (.t 46) (.c (.int .i64 1))⟩,
        ⟨(some 48), none, .pick (.t 44) (.t 47) (.c (.bool false))⟩,
        ⟨(some 49), none, .mv (.t 48)⟩,
        ⟨(some 50), some (49, true), .mv (.t 7)⟩,
        ⟨(some 51), some (49, true), .mv (.t 2)⟩,
        ⟨(some 52), some (49, true), .mv (.t 1)⟩,
        ⟨(some 53), some (49, true), .call 2 (.f 10) [(.c (.int .i64 2))]⟩,
        ⟨(some 54), some (49, true), .build [(.int .i64 0), (.bool false), (.int .i64 0)] [(0, 1, (.t 52)), (1, 2, (.t 53))]⟩,
        ⟨(some 55), some (49, true), .call 0 (.f 9) [(.t 50), (.t 51), (.t 54)]⟩,
        ⟨(some 56), some (49, true), .bin .eql (.t 55) (.c (.int .i64 150))⟩,
        ⟨(some 57), none, .pick (.t 49) (.t 56) (.c (.bool false))⟩,
        ⟨(some 58), none, .mv (.t 57)⟩,
        ⟨(some 59), some (58, true), .mv (.t 7)⟩,
        ⟨(some 60), some (58, true), .call 2 (.f 11) [(.t 59)]⟩,
        ⟨(some 61), some (58, true), .bin .eql (.t 60) (.c (.int .i64 1))⟩,
        ⟨(some 62), none, .pick (.t 58) (.t 61) (.c (.bool false))⟩,
        ⟨(some 6), none, .mv (.t 62)⟩] [6])
    .ret)
    .skip))
  (.seq (.rg [⟨(some 63), none, .mv (.t 7)⟩,
      ⟨(some 64), none, .call 2 (.f 11) [(.t 63)]⟩,
      ⟨(some 65), none, .bin .eql (.t 64) (.c (.int .i64 0))⟩,
      ⟨(some 66), none, .mv (.t 65)⟩,
      ⟨(some 67), some (66, true), .mv (.t 9)⟩,
      ⟨(some 68), some (66, true), .bin .eql (.t 67) (.c (.int .i64 30))⟩,
      ⟨(some 69), some (66, true), .mv (.t 68)⟩,
      ⟨(some 70), some (69, false), .mv (.t 9)⟩,
      ⟨(some 71), some (69, false), .bin .eql (.t 70) (.c (.int .i64 152))⟩,
      ⟨(some 72), some (69, false), .mv (.t 71)⟩,
      ⟨(some 73), some (72, true), .mv (.t 10)⟩,
      ⟨(some 74), some (72, true), .un .not (.t 73)⟩,
      ⟨(some 75), some (69, false), .pick (.t 72) (.t 74) (.c (.bool false))⟩,
      ⟨(some 76), some (66, true), .pick (.t 69) (.c (.bool true)) (.t 75)⟩,
      ⟨(some 77), none, .pick (.t 66) (.t 76) (.c (.bool false))⟩,
      ⟨(some 6), none, .mv (.t 77)⟩] [6])
  .ret)))))))))),
  [.t 6]⟩

/- spillway/spillwaylaw16.HistoryStays -/
def an4 : Ann := [[0, 1], [2], [0, 1, 17], [4], [0, 1, 20], [4], [0], [0, 1, 5], [0, 1, 5, 6], [0, 5, 6, 7], [0, 5, 6, 7, 8], [0, 5, 6, 7, 8], [0, 5, 6, 7, 8, 31], [0], [0, 5, 6, 7, 8], [0], [0, 5, 6, 7, 8, 52], [4], [0, 5, 6, 7, 8], [0], [0, 5, 6, 7, 9], [2], [0, 5, 6, 7, 9, 71], [4], [0, 5, 6, 7, 9, 10], [0, 5, 6, 7, 9, 10], [0, 5, 6, 7, 9, 10, 75], [2], [0, 5, 6, 7, 9, 10, 11, 12], [0, 5, 6, 7, 9, 10, 11, 12, 13], [2], [0, 5, 6, 7, 9, 10, 11, 12, 13, 94], [0, 5, 6, 7, 9, 10, 11, 12, 13], [0], [0, 5, 6, 7, 9, 10, 127], [4], [2], [0, 5, 6, 7, 9, 10, 15], [0, 5, 6, 7, 9, 10, 149], [4], [0, 5, 6, 7, 9, 10], [4]]
def fn4B0 : Cd :=
  (.seq (.seq (.rg [⟨(some 28), none, .mv (.t 8)⟩,
      ⟨(some 29), none, .mv (.t 0)⟩,
      ⟨(some 30), none, .len false (.t 29)⟩,
      ⟨(some 31), none, .bin .lss (.t 28) (.t 30)⟩] [0, 5, 6, 7, 8, 31])
  (.cond (.t 31)
    .skip
    (.exit 0)))
  (.seq (.block 1
    (.seq (.rg [⟨(some 34), none, .mv (.t 5)⟩,
        ⟨(some 35), none, .mv (.t 7)⟩,
        ⟨(some 36), none, .mv (.t 8)⟩,
        ⟨(some 37), none, .bin .add (.t 36) (.c (.int .i64 1))⟩,
        ⟨(some 38), none, .bin .mul (.t 35) (.t 37)⟩,
        ⟨(some 39), none, .call 0 (.f 8) [(.t 34), (.t 38)]⟩] [0, 5, 6, 7, 8])
    (.seq (.rg [⟨(some 40), none, .mv (.t 5)⟩,
        ⟨(some 41), none, .mv (.t 6)⟩,
        ⟨(some 42), none, .mv (.t 7)⟩,
        ⟨(some 43), none, .mv (.t 8)⟩,
        ⟨(some 44), none, .bin .add (.t 43) (.c (.int .i64 1))⟩,
        ⟨(some 45), none, .bin .mul (.t 42) (.t 44)⟩,
        ⟨(some 46), none, .mv (.t 0)⟩,
        ⟨(some 47), none, .mv (.t 8)⟩,
        ⟨(some 48), none, .iad 2 (.t 46) (.t 47)⟩,
        ⟨(some 49), none, .load true 2 (.t 48) false⟩,
        ⟨(some 50), none, .build [(.int .i64 0), (.bool false), (.int .i64 0)] [(0, 1, (.t 45)), (1, 2, (.t 49))]⟩,
        ⟨(some 51), none, .call 0 (.f 9) [(.t 40), (.t 41), (.t 50)]⟩,
        ⟨(some 52), none, .bin .neq (.t 51) (.c (.int .i64 0))⟩] [0, 5, 6, 7, 8, 52])
    (.cond (.t 52)
      (.seq (.rg [⟨(some 4), none, .mv (.c (.bool false))⟩] [4])
      .ret)
      .skip))))
  (.rg [⟨(some 32), none, .mv (.t 8)⟩,
      ⟨(some 33), none, .bin .add (.t 32) (.c (.int .i64 1))⟩,
      ⟨(some 8), none, .mv (.t 33)⟩] [0, 5, 6, 7, 8])))
def fn4L0 : Cd := .loop [0, 5, 6, 7, 8] fn4B0
def fn4B1 : Cd :=
  (.seq (.seq (.rg [⟨(some 72), none, .mv (.t 10)⟩,
      ⟨(some 73), none, .mv (.t 0)⟩,
      ⟨(some 74), none, .len false (.t 73)⟩,
      ⟨(some 75), none, .bin .lss (.t 72) (.t 74)⟩] [0, 5, 6, 7, 9, 10, 75])
  (.cond (.t 75)
    .skip
    (.exit 2)))
  (.seq (.block 3
    (.seq (.rg [⟨(some 79), none, .mv (.t 5)⟩,
        ⟨(some 80), none, .mv (.t 6)⟩,
        ⟨(some 81), none, .mv (.t 7)⟩,
        ⟨(some 82), none, .mv (.t 10)⟩,
        ⟨(some 83), none, .bin .add (.t 82) (.c (.int .i64 1))⟩,
        ⟨(some 84), none, .bin .mul (.t 81) (.t 83)⟩,
        ⟨(some 85), none, .call 2 (.f 13) [(.t 79), (.t 80), (.t 84)]⟩,
        ⟨(some 78), none, .mv (.t 85)⟩,
        ⟨(some 86), none, .ext (.t 78) 0⟩,
        ⟨(some 87), none, .ext (.t 78) 1⟩,
        ⟨(some 11), none, .alloc [(.int .i64 0), (.bool false), (.int .i64 0)]⟩,
        ⟨none, none, .store 3 (.t 11) (.t 86)⟩,
        ⟨(some 12), none, .mv (.t 87)⟩] [0, 5, 6, 7, 9, 10, 11, 12])
    (.seq (.rg [⟨(some 88), none, .mv (.t 0)⟩,
        ⟨(some 89), none, .mv (.t 10)⟩,
        ⟨(some 90), none, .iad 2 (.t 88) (.t 89)⟩,
        ⟨(some 91), none, .load true 2 (.t 90) false⟩,
        ⟨(some 13), none, .alloc [(.bool false), (.int .i64 0)]⟩,
        ⟨none, none, .store 2 (.t 13) (.t 91)⟩] [0, 5, 6, 7, 9, 10, 11, 12, 13])
    (.seq (.seq (.rg [⟨(some 92), none, .load true 2 (.t 13) false⟩,
        ⟨(some 93), none, .call 2 (.f 14) [(.t 92)]⟩,
        ⟨(some 94), none, .un .not (.t 93)⟩] [0, 5, 6, 7, 9, 10, 11, 12, 13, 94])
    (.cond (.t 94)
      (.rg [⟨(some 95), none, .build [(.bool false), (.int .i64 0)] [(0, 1, (.c (.bool true)))]⟩,
          ⟨none, none, .store 2 (.t 13) (.t 95)⟩] [0, 5, 6, 7, 9, 10, 11, 12, 13])
      .skip))
    (.seq (.seq (.rg [⟨(some 96), none, .mv (.t 12)⟩,
        ⟨(some 97), none, .un .not (.t 96)⟩,
        ⟨(some 98), none, .mv (.t 97)⟩,
        ⟨(some 99), some (98, false), .fad 1 (.t 11)⟩,
        ⟨(some 100), some (98, false), .load true 2 (.t 99) false⟩,
        ⟨(some 101), some (98, false), .load true 2 (.t 13) false⟩,
        ⟨(some 102), some (98, false), .eqs true [0, 1] (.t 100) (.t 101)⟩,
        ⟨(some 103), none, .pick (.t 98) (.c (.bool true)) (.t 102)⟩,
        ⟨(some 104), none, .mv (.t 103)⟩,
        ⟨(some 105), some (104, false), .mv (.t 9)⟩,
        ⟨(some 106), some (104, false), .mv (.t 10)⟩,
        ⟨(some 107), some (104, false), .iad 3 (.t 105) (.t 106)⟩,
        ⟨(some 108), some (104, false), .load true 3 (.t 107) false⟩,
        ⟨(some 109), some (104, false), .load true 3 (.t 11) false⟩,
        ⟨(some 110), some (104, false), .eqs true [1, 0, 1] (.t 108) (.t 109)⟩,
        ⟨(some 111), none, .pick (.t 104) (.c (.bool true)) (.t 110)⟩,
        ⟨(some 112), none, .mv (.t 111)⟩,
        ⟨(some 113), some (112, false), .mv (.t 5)⟩,
        ⟨(some 114), some (112, false), .mv (.t 6)⟩,
        ⟨(some 115), some (112, false), .mv (.t 7)⟩,
        ⟨(some 116), some (112, false), .mv (.t 10)⟩,
        ⟨(some 117), some (112, false), .bin .add (.t 116) (.c (.int .i64 1))⟩,
        ⟨(some 118), some (112, false), .bin .mul (.t 115) (.t 117)⟩,
        ⟨(some 119), some (112, false), .bin .sub (.t 118) (.c (.int .i64 1))⟩,
        ⟨(some 120), some (112, false), .mv (.t 7)⟩,
        ⟨(some 121), some (112, false), .mv (.t 10)⟩,
        ⟨(some 122), some (112, false), .bin .add (.t 121) (.c (.int .i64 1))⟩,
        ⟨(some 123), some (112, false), .bin .mul (.t 120) (.t 122)⟩,
        ⟨(some 124), some (112, false), .call 0 (.f 12) [(.t 113), (.t 114), (.t 119), (.t 123)]⟩,
        ⟨(some 125), some (112, false), .len false (.t 124)⟩,
        ⟨(some 126), some (112, false), .bin .neq (.t 125) (.c (.int .i64 1))⟩,
        ⟨(some 127), none, .pick (.t 112) (.c (.bool true)) (.t 126)⟩] [0, 5, 6, 7, 9, 10, 127])
    (.cond (.t 127)
      (.seq (.rg [⟨(some 4), none, .mv (.c (.bool false))⟩] [4])
      .ret)
      .skip))
    (.seq (.rg [⟨(some 129), none, .mv (.t 5)⟩,
        ⟨(some 130), none, .mv (.t 6)⟩,
        ⟨(some 131), none, .mv (.t 7)⟩,
        ⟨(some 132), none, .mv (.t 10)⟩,
        ⟨(some 133), none, .bin .add (.t 132) (.c (.int .i64 1))⟩,
        ⟨(some 134), none, .bin .mul (.t 131) (.t 133)⟩,
        ⟨(some 135), none, .bin .add (.t 134) (.c (.int .i64 10))⟩,
        ⟨(some 136), none, .call 2 (.f 13) [(.t 129), (.t 130), (.t 135)]⟩,
        ⟨(some 128), none, .mv (.t 136)⟩,
        ⟨(some 137), none, .ext (.t 128) 0⟩,
        ⟨(some 138), none, .ext (.t 128) 1⟩,
        ⟨(some 14), none, .alloc [(.int .i64 0), (.bool false), (.int .i64 0)]⟩,
        ⟨none, none, .store 3 (.t 14) (.t 137)⟩,
        ⟨(some 15), none, .mv (.t 138)⟩] [0, 5, 6, 7, 9, 10, 15])
    (.seq (.rg [⟨(some 139), none, .mv (.t 15)⟩,
        ⟨(some 140), none, .mv (.t 7)⟩,
        ⟨(some 141), none, .bin .leq (.t 140) (.c (.int .i64 10))⟩,
        ⟨(some 142), none, .mv (.t 141)⟩,
        ⟨(some 143), some (142, true), .mv (.t 10)⟩,
        ⟨(some 144), some (142, true), .bin .add (.t 143) (.c (.int .i64 1))⟩,
        ⟨(some 145), some (142, true), .mv (.t 0)⟩,
        ⟨(some 146), some (142, true), .len false (.t 145)⟩,
        ⟨(some 147), some (142, true), .bin .lss (.t 144) (.t 146)⟩,
        ⟨(some 148), none, .pick (.t 142) (.t 147) (.c (.bool false))⟩,
        ⟨(some 149), none, .eqb true (.t 139) (.t 148)⟩] [0, 5, 6, 7, 9, 10, 149])
    (.cond (.t 149)
      (.seq (.rg [⟨(some 4), none, .mv (.c (.bool false))⟩] [4])
      .ret)
      .skip))))))))
  (.rg [⟨(some 76), none, .mv (.t 10)⟩,
      ⟨(some 77), none, .bin .add (.t 76) (.c (.int .i64 1))⟩,
      ⟨(some 10), none, .mv (.t 77)⟩] [0, 5, 6, 7, 9, 10])))
def fn4L1 : Cd := .loop [0, 5, 6, 7, 9, 10] fn4B1
def fn4 : Vs.Fn := ⟨2,
  (.seq (.rg [⟨(some 4), none, .mv (.c (.bool false))⟩] [0, 1])
  (.seq (.seq (.rg [⟨(some 16), none, .call 2 (.f 6) []⟩,
      ⟨(some 17), none, .un .not (.t 16)⟩] [0, 1, 17])
  (.cond (.t 17)
    (.seq (.rg [⟨(some 4), none, .mv (.c (.bool false))⟩] [4])
    .ret)
    .skip))
  (.seq (.seq (.rg [⟨(some 18), none, .mv (.t 0)⟩,
      ⟨(some 19), none, .len false (.t 18)⟩,
      ⟨(some 20), none, .bin .gtr (.t 19) (.c (.int .i64 60))⟩] [0, 1, 20])
  (.cond (.t 20)
    (.seq (.rg [⟨(some 4), none, .mv (.c (.bool true))⟩] [4])
    .ret)
    .skip))
  (.seq (.rg [⟨(some 21), none, .call 0 (.f 7) []⟩,
      ⟨(some 5), none, .mv (.t 21)⟩] [0, 1, 5])
  (.seq (.rg [⟨(some 22), none, .build [(.str ⟨#[]⟩), (.str ⟨#[]⟩)] [(0, 1, (.c (.string ⟨#[97]⟩))), (1, 1, (.c (.string ⟨#[98]⟩)))]⟩,
      ⟨(some 23), none, .bslice 1 2 [(.str ⟨#[]⟩), (.str ⟨#[]⟩)] [(0, (.t 22))]⟩,
      ⟨(some 6), none, .mv (.t 23)⟩] [0, 1, 5, 6])
  (.seq (.rg [⟨(some 24), none, .mv (.t 1)⟩,
      ⟨(some 25), none, .bin .rem (.t 24) (.c (.int .u8 120))⟩,
      ⟨(some 26), none, .cvi .i64 (.t 25)⟩,
      ⟨(some 27), none, .bin .add (.t 26) (.c (.int .i64 1))⟩,
      ⟨(some 7), none, .mv (.t 27)⟩] [0, 5, 6, 7])
  (.seq (.seq (.rg [⟨(some 8), none, .mv (.c (.int .i64 0))⟩] [0, 5, 6, 7, 8])
  (.block 0
    fn4L0))
  (.seq (.rg [⟨(some 53), none, .mv (.t 5)⟩,
      ⟨(some 54), none, .mv (.t 6)⟩,
      ⟨(some 55), none, .mv (.t 7)⟩,
      ⟨(some 56), none, .mv (.t 0)⟩,
      ⟨(some 57), none, .len false (.t 56)⟩,
      ⟨(some 58), none, .bin .mul (.t 55) (.t 57)⟩,
      ⟨(some 59), none, .call 0 (.f 12) [(.t 53), (.t 54), (.c (.int .i64 0)), (.t 58)]⟩,
      ⟨(some 9), none, .mv (.t 59)⟩] [0, 5, 6, 7, 9])
  (.seq (.seq (.rg [⟨(some 60), none, .mv (.t 9)⟩,
      ⟨(some 61), none, .len false (.t 60)⟩,
      ⟨(some 62), none, .mv (.t 0)⟩,
      ⟨(some 63), none, .len false (.t 62)⟩,
      ⟨(some 64), none, .bin .neq (.t 61) (.t 63)⟩,
      ⟨(some 65), none, .mv (.t 64)⟩,
      ⟨(some 66), some (65, false), .mv (.t 5)⟩,
      ⟨(some 67), some (65, false), .call 2 (.f 11) [(.t 66)]⟩,
      ⟨(some 68), some (65, false), .mv (.t 0)⟩,
      ⟨(some 69), some (65, false), .len false (.t 68)⟩,
      ⟨(some 70), some (65, false), .bin .neq (.t 67) (.t 69)⟩,
      ⟨(some 71), none, .pick (.t 65) (.c (.bool true)) (.t 70)⟩] [0, 5, 6, 7, 9, 71])
  (.cond (.t 71)
    (.seq (.rg [⟨(some 4), none, .mv (.c (.bool false))⟩] [4])
    .ret)
    .skip))
  (.seq (.seq (.rg [⟨(some 10), none, .mv (.c (.int .i64 0))⟩] [0, 5, 6, 7, 9, 10])
  (.block 2
    fn4L1))
  (.seq (.rg [⟨(some 4), none, .mv (.c (.bool true))⟩] [4])
  .ret))))))))))),
  [.t 4]⟩

/- spillway/spillwaylaw16.known -/
def an6 : Ann := [[], [0], [1], [1, 2], [1, 2, 13], [0], [0], [1, 2], [2], [0], [0], [1, 2, 3, 4], [0], [1, 2, 3, 4], [2], [1, 2, 3, 4, 5, 6], [2], [1, 2, 3, 4, 5, 6, 8], [2], [2], [2], [0], [0]]
def fn6 : Vs.Fn := ⟨0,
  (.seq (.rg [⟨(some 0), none, .mv (.c (.bool false))⟩] [])
  (.seq (.rg [⟨(some 9), none, .call 0 (.f 7) []⟩,
      ⟨(some 1), none, .mv (.t 9)⟩] [1])
  (.seq (.rg [⟨(some 10), none, .build [(.str ⟨#[]⟩), (.str ⟨#[]⟩)] [(0, 1, (.c (.string ⟨#[97]⟩))), (1, 1, (.c (.string ⟨#[98]⟩)))]⟩,
      ⟨(some 11), none, .bslice 1 2 [(.str ⟨#[]⟩), (.str ⟨#[]⟩)] [(0, (.t 10))]⟩,
      ⟨(some 2), none, .mv (.t 11)⟩] [1, 2])
  (.seq (.seq (.rg [⟨(some 12), none, .mv (.t 1)⟩,
      ⟨(some 13), none, .eqn 0 false (.t 12)⟩] [1, 2, 13])
  (.cond (.t 13)
    (.seq (.rg [⟨(some 0), none, .mv (.c (.bool false))⟩] [0])
    .ret)
    .skip))
  (.seq (.rg [⟨(some 14), none, .mv (.t 1)⟩,
      ⟨(some 15), none, .call 0 (.f 8) [(.t 14), (.c (.int .i64 9))]⟩] [1, 2])
  (.seq (.rg [⟨(some 16), none, .mv (.t 1)⟩,
      ⟨(some 17), none, .mv (.t 2)⟩,
      ⟨(some 18), none, .call 2 (.f 10) [(.c (.int .i64 2))]⟩,
      ⟨(some 19), none, .build [(.int .i64 0), (.bool false), (.int .i64 0)] [(0, 1, (.c (.int .i64 5))), (1, 2, (.t 18))]⟩,
      ⟨(some 20), none, .call 0 (.f 9) [(.t 16), (.t 17), (.t 19)]⟩,
      ⟨(some 21), none, .mv (.t 1)⟩,
      ⟨(some 22), none, .build [(.int .i64 0), (.bool false), (.int .i64 0)] [(0, 1, (.c (.int .i64 5)))]⟩,
      ⟨(some 23), none, .call 0 (.f 9) [(.t 21), (.c (.slice none 0 0)), (.t 22)]⟩,
      ⟨(some 3), none, .mv (.t 20)⟩,
      ⟨(some 4), none, .mv (.t 23)⟩] [1, 2, 3, 4])
  (.seq (.rg [⟨(some 24), none, .mv (.t 1)⟩,
      ⟨(some 25), none, .call 0 (.f 8) [(.t 24), (.c (.int .i64 300))]⟩] [1, 2, 3, 4])
  (.seq (.rg [⟨(some 27), none, .mv (.t 1)⟩,
      ⟨(some 28), none, .mv (.t 2)⟩,
      ⟨(some 29), none, .call 2 (.f 13) [(.t 27), (.t 28), (.c (.int .i64 9))]⟩,
      ⟨(some 26), none, .mv (.t 29)⟩,
      ⟨(some 30), none, .ext (.t 26) 0⟩,
      ⟨(some 31), none, .ext (.t 26) 1⟩,
      ⟨(some 5), none, .alloc [(.int .i64 0), (.bool false), (.int .i64 0)]⟩,
      ⟨none, none, .store 3 (.t 5) (.t 30)⟩,
      ⟨(some 6), none, .mv (.t 31)⟩] [1, 2, 3, 4, 5, 6])
  (.seq (.rg [⟨(some 33), none, .mv (.t 1)⟩,
      ⟨(some 34), none, .mv (.t 2)⟩,
      ⟨(some 35), none, .call 2 (.f 13) [(.t 33), (.t 34), (.c (.int .i64 15))]⟩,
      ⟨(some 32), none, .mv (.t 35)⟩,
      ⟨(some 36), none, .ext (.t 32) 0⟩,
      ⟨(some 37), none, .ext (.t 32) 1⟩,
      ⟨(some 7), none, .alloc [(.int .i64 0), (.bool false), (.int .i64 0)]⟩,
      ⟨none, none, .store 3 (.t 7) (.t 36)⟩,
      ⟨(some 8), none, .mv (.t 37)⟩] [1, 2, 3, 4, 5, 6, 8])
  (.seq (.rg [⟨(some 38), none, .mv (.t 3)⟩,
      ⟨(some 39), none, .bin .eql (.t 38) (.c (.int .i64 0))⟩,
      ⟨(some 40), none, .mv (.t 39)⟩,
      ⟨(some 41), some (40, true), .mv (.t 4)⟩,
      ⟨(some 42), some (40, true), .bin .eql (.t 41) (.c (.int .i64 0))⟩,
      ⟨(some 43), none, .pick (.t 40) (.t 42) (.c (.bool false))⟩,
      ⟨(some 44), none, .mv (.t 43)⟩,
      ⟨(some 45), some (44, true), .mv (.t 6)⟩,
      ⟨(some 46), none, .pick (.t 44) (.t 45) (.c (.bool false))⟩,
      ⟨(some 47), none, .mv (.t 46)⟩,
      ⟨(some 48), some (47, true), .fad 0 (.t 5)⟩,
      ⟨(some 49), some (47, true), .load false 1 (.t 48) false⟩,
      ⟨(some 50), some (47, true), .bin .eql (.t 49) (.c (.int .i64 5))⟩,
      ⟨(some 51), none, .pick (.t 47) (.t 50) (.c (.bool false))⟩,
      ⟨(some 52), none, .mv (.t 51)⟩,
      ⟨(some 53), some (52, true), .mv (.t 8)⟩,
      ⟨(some 54), some (52, true), .un .not (.t 53)⟩,
      ⟨(some 55), none, .pick (.t 52) (.t 54) (.c (.bool false))⟩,
      ⟨(some 56), none, .mv (.t 55)⟩,
      ⟨(some 57), some (56, true), .mv (.t 1)⟩,
      ⟨(some 58), some (56, true), .call 2 (.f 11) [(.t 57)]⟩,
      ⟨(some 59), some (56, true), .bin .eql (.t 58) (.c (.int .i64 2))⟩,
      ⟨(some 60), none, .pick (.t 56) (.t 59) (.c (.bool false))⟩,
      ⟨(some 61), none, .mv (.t 60)⟩,
      ⟨(some 62), some (61, true), .mv (.t 1)⟩,
      ⟨(some 63), some (61, true), .call 2 (.f 20) [(.t 62), (.c (.int .i64 104)), (.c (.slice none 0 0))]⟩,
      ⟨(some 64), some (61, true), .len false (.t 63)⟩,
      ⟨(some 65), some (61, true), .bin .eql (.t 64) (.c (.int .i64 2))⟩,
      ⟨(some 66), none, .pick (.t 61) (.t 65) (.c (.bool false))⟩,
      ⟨(some 67), none, .mv (.t 66)⟩,
      ⟨(some 68), some (67, true), .mv (.t 1)⟩,
      ⟨(some 69), some (67, true), .call 2 (.f 20) [(.t 68), (.c (.int .i64 105)), (.c (.slice none 0 0))]⟩,
      ⟨(some 70), some (67, true), .len false (.t 69)⟩,
      ⟨(some 71), some (67, true), .bin .eql (.t 70) (.c (.int .i64 0))⟩,
      ⟨(some 72), none, .pick (.t 67) (.t 71) (.c (.bool false))⟩,
      ⟨(some 73), none, .mv (.t 72)⟩,
      ⟨(some 74), some (73, true), .mv (.t 1)⟩,
      ⟨(some 75), some (73, true), .mv (.t 2)⟩,
      ⟨(some 76), some (73, true), .call 0 (.f 12) [(.t 74), (.t 75), (.c (.int .i64 4)), (.c (.int .i64 5))]⟩,
      ⟨(some 77), some (73, true), .len false (.t 76)⟩,
      ⟨(some 78), some (73, true), .bin .eql (.t 77) (.c (.int .i64 1))⟩,
      ⟨(some 79), none, .pick (.t 73) (.t 78) (.c (.bool false))⟩,
      ⟨(some 0), none, .mv (.t 79)⟩] [0])
  .ret)))))))))),
  [.t 0]⟩

/- spillway/history.New -/
def an7 : Ann := [[], [0]]
def fn7 : Vs.Fn := ⟨0,
  (.seq (.rg [⟨(some 0), none, .mv (.c (.pointer none))⟩] [])
  (.seq (.rg [⟨(some 1), none, .build [(.int .i64 0), .nsl] []⟩,
      ⟨(some 2), none, .box 2 (.t 1)⟩,
      ⟨(some 0), none, .mv (.t 2)⟩] [0])
  .ret)),
  [.t 0]⟩

/- (*spillway/history.History).Advance -/
def an8 : Ann := [[]]
def fn8 : Vs.Fn := ⟨2,
  (.rg [⟨(some 4), none, .mv (.t 0)⟩,
      ⟨(some 5), none, .mv (.t 0)⟩,
      ⟨(some 6), none, .nilck (.t 5)⟩,
      ⟨(some 7), none, .fad 0 (.t 6)⟩,
      ⟨(some 8), none, .load false 1 (.t 7) false⟩,
      ⟨(some 9), none, .mv (.t 1)⟩,
      ⟨(some 10), none, .mn [(.t 9), (.c (.int .i64 1000000))]⟩,
      ⟨(some 11), none, .mx [(.t 8), (.t 10)]⟩,
      ⟨(some 12), none, .nilck (.t 4)⟩,
      ⟨(some 13), none, .fad 0 (.t 12)⟩,
      ⟨none, none, .store 1 (.t 13) (.t 11)⟩] []),
  []⟩

/- (*spillway/history.History).Add -/
def an9 : Ann := [[0, 1, 5], [2], [0, 1, 5, 14], [6], [0, 1, 5, 18], [6], [2], [0, 1, 5, 7, 8], [0, 1, 5, 7, 8, 9], [0, 1, 5, 7, 8, 9, 50, 51, 52], [0, 1, 5, 7, 8, 9, 50, 51, 52], [0, 1, 5, 7, 8, 9, 50, 51, 52, 53], [0, 1, 5, 7, 8, 9, 11, 50, 51, 52], [2], [0, 1, 5, 7, 8, 9, 50, 51, 52, 61], [0, 1, 5, 7, 8, 9, 50, 51, 52], [0, 1, 5, 7, 8, 9, 50, 51, 52], [2], [0, 1, 5, 7, 8, 9, 65], [2], [0, 1, 5, 7, 8, 12], [0, 1, 5, 7, 8, 101], [6], [0, 1, 5, 7, 8, 102], [6], [0, 1, 5, 7, 106], [0, 0, 0, 0], [0], [0], [0, 5, 7], [0, 5, 7, 128], [0, 5, 7], [0, 0, 0, 0], [], [6]]
def fn9B0 : Cd :=
  (.seq (.rg [⟨(some 53), none, .bin .lss (.t 52) (.t 51)⟩] [0, 1, 5, 7, 8, 9, 50, 51, 52, 53])
  (.seq (.cond (.t 53)
    .skip
    (.exit 1))
  (.seq (.block 2
    (.seq (.rg [⟨(some 54), none, .iad 2 (.t 50) (.t 52)⟩,
        ⟨(some 55), none, .load true 2 (.t 54) false⟩,
        ⟨(some 11), none, .alloc [.nsl, .nsl]⟩,
        ⟨none, none, .store 2 (.t 11) (.t 55)⟩] [0, 1, 5, 7, 8, 9, 11, 50, 51, 52])
    (.seq (.rg [⟨(some 56), none, .load true 2 (.t 11) false⟩,
        ⟨(some 57), none, .mv (.t 0)⟩,
        ⟨(some 58), none, .nilck (.t 57)⟩,
        ⟨(some 59), none, .fad 0 (.t 58)⟩,
        ⟨(some 60), none, .load false 1 (.t 59) false⟩,
        ⟨(some 61), none, .call 2 (.f 23) [(.t 56), (.t 60)]⟩] [0, 1, 5, 7, 8, 9, 50, 51, 52, 61])
    (.cond (.t 61)
      (.rg [⟨(some 62), none, .mv (.t 9)⟩,
          ⟨(some 63), none, .bin .add (.t 62) (.c (.int .i64 1))⟩,
          ⟨(some 9), none, .mv (.t 63)⟩] [0, 1, 5, 7, 8, 9, 50, 51, 52])
      .skip))))
  (.rg [⟨(some 64), none, .bin .add (.t 52) (.c (.int .i64 1))⟩,
      ⟨(some 52), none, .mv (.t 64)⟩] [0, 1, 5, 7, 8, 9, 50, 51, 52]))))
def fn9L0 : Cd := .loop [0, 1, 5, 7, 8, 9, 50, 51, 52] fn9B0
def fn9 : Vs.Fn := ⟨3,
  (.seq (.rg [⟨(some 5), none, .box 3 (.t 2)⟩,
      ⟨(some 6), none, .mv (.c (.int .i64 0))⟩] [0, 1, 5])
  (.seq (.block 0
    (.seq (.rg [⟨(some 15), none, .mv (.t 1)⟩,
        ⟨(some 16), none, .call 2 (.f 21) [(.t 15)]⟩,
        ⟨(some 17), none, .un .not (.t 16)⟩,
        ⟨(some 14), none, .mv (.t 17)⟩] [0, 1, 5, 14])
    (.cond (.t 14)
      (.seq (.rg [⟨(some 6), none, .mv (.c (.int .i64 30))⟩] [6])
      .ret)
      (.seq (.rg [⟨(some 19), none, .fad 0 (.t 5)⟩,
          ⟨(some 20), none, .load false 1 (.t 19) false⟩,
          ⟨(some 21), none, .bin .lss (.t 20) (.c (.int .i64 0))⟩,
          ⟨(some 22), none, .mv (.t 21)⟩,
          ⟨(some 23), some (22, false), .fad 0 (.t 5)⟩,
          ⟨(some 24), some (22, false), .load false 1 (.t 23) false⟩,
          ⟨(some 25), some (22, false), .mv (.t 0)⟩,
          ⟨(some 26), some (22, false), .nilck (.t 25)⟩,
          ⟨(some 27), some (22, false), .fad 0 (.t 26)⟩,
          ⟨(some 28), some (22, false), .load false 1 (.t 27) false⟩,
          ⟨(some 29), some (22, false), .bin .gtr (.t 24) (.t 28)⟩,
          ⟨(some 30), none, .pick (.t 22) (.c (.bool true)) (.t 29)⟩,
          ⟨(some 31), none, .mv (.t 30)⟩,
          ⟨(some 32), some (31, false), .fad 0 (.t 5)⟩,
          ⟨(some 33), some (31, false), .load false 1 (.t 32) false⟩,
          ⟨(some 34), some (31, false), .mv (.t 0)⟩,
          ⟨(some 35), some (31, false), .nilck (.t 34)⟩,
          ⟨(some 36), some (31, false), .fad 0 (.t 35)⟩,
          ⟨(some 37), some (31, false), .load false 1 (.t 36) false⟩,
          ⟨(some 38), some (31, false), .bin .sub (.t 37) (.c (.int .i64 100))⟩,
          ⟨(some 39), some (31, false), .bin .leq (.t 33) (.t 38)⟩,
          ⟨(some 40), none, .pick (.t 31) (.c (.bool true)) (.t 39)⟩,
          ⟨(some 18), none, .mv (.t 40)⟩] [0, 1, 5, 18])
      (.cond (.t 18)
        (.seq (.rg [⟨(some 6), none, .mv (.c (.int .i64 152))⟩] [6])
        .ret)
        .skip)))))
  (.seq (.rg [⟨(some 42), none, .mv (.t 0)⟩,
      ⟨(some 43), none, .mv (.t 1)⟩,
      ⟨(some 44), none, .call 2 (.f 22) [(.t 42), (.t 43)]⟩,
      ⟨(some 41), none, .mv (.t 44)⟩,
      ⟨(some 45), none, .ext (.t 41) 0⟩,
      ⟨(some 46), none, .ext (.t 41) 1⟩,
      ⟨(some 7), none, .mv (.t 45)⟩,
      ⟨(some 8), none, .mv (.t 46)⟩] [0, 1, 5, 7, 8])
  (.seq (.rg [⟨(some 9), none, .mv (.c (.int .i64 0))⟩] [0, 1, 5, 7, 8, 9])
  (.seq (.seq (.rg [⟨(some 47), none, .mv (.t 0)⟩,
      ⟨(some 48), none, .nilck (.t 47)⟩,
      ⟨(some 49), none, .fad 1 (.t 48)⟩,
      ⟨(some 50), none, .load false 1 (.t 49) false⟩,
      ⟨(some 51), none, .len false (.t 50)⟩,
      ⟨(some 52), none, .mv (.c (.int .i64 0))⟩] [0, 1, 5, 7, 8, 9, 50, 51, 52])
  (.block 1
    fn9L0))
  (.seq (.block 3
    (.seq (.rg [⟨(some 66), none, .mv (.t 8)⟩,
        ⟨(some 67), none, .mv (.t 66)⟩,
        ⟨(some 68), some (67, true), .mv (.t 0)⟩,
        ⟨(some 69), some (67, true), .nilck (.t 68)⟩,
        ⟨(some 70), some (67, true), .fad 1 (.t 69)⟩,
        ⟨(some 71), some (67, true), .load false 1 (.t 70) false⟩,
        ⟨(some 72), some (67, true), .mv (.t 7)⟩,
        ⟨(some 73), some (67, true), .iad 2 (.t 71) (.t 72)⟩,
        ⟨(some 74), some (67, true), .load true 2 (.t 73) false⟩,
        ⟨(some 75), some (67, true), .mv (.t 0)⟩,
        ⟨(some 76), some (67, true), .nilck (.t 75)⟩,
        ⟨(some 77), some (67, true), .fad 0 (.t 76)⟩,
        ⟨(some 78), some (67, true), .load false 1 (.t 77) false⟩,
        ⟨(some 79), some (67, true), .call 2 (.f 23) [(.t 74), (.t 78)]⟩,
        ⟨(some 80), none, .pick (.t 67) (.t 79) (.c (.bool false))⟩,
        ⟨(some 65), none, .mv (.t 80)⟩] [0, 1, 5, 7, 8, 9, 65])
    (.cond (.t 65)
      (.seq (.rg [⟨(some 82), none, .mv (.t 0)⟩,
          ⟨(some 83), none, .nilck (.t 82)⟩,
          ⟨(some 84), none, .fad 1 (.t 83)⟩,
          ⟨(some 85), none, .load false 1 (.t 84) false⟩,
          ⟨(some 86), none, .mv (.t 7)⟩,
          ⟨(some 87), none, .iad 2 (.t 85) (.t 86)⟩,
          ⟨(some 88), none, .fad 0 (.t 87)⟩,
          ⟨(some 89), none, .load false 1 (.t 88) false⟩,
          ⟨(some 90), none, .mv (.t 0)⟩,
          ⟨(some 91), none, .nilck (.t 90)⟩,
          ⟨(some 92), none, .fad 0 (.t 91)⟩,
          ⟨(some 93), none, .load false 1 (.t 92) false⟩,
          ⟨(some 94), none, .call 2 (.f 24) [(.t 89), (.t 93)]⟩,
          ⟨(some 81), none, .mv (.t 94)⟩,
          ⟨(some 95), none, .ext (.t 81) 0⟩,
          ⟨(some 96), none, .ext (.t 81) 1⟩,
          ⟨(some 12), none, .alloc [(.int .i64 0), (.bool false), (.int .i64 0)]⟩,
          ⟨none, none, .store 3 (.t 12) (.t 95)⟩,
          ⟨(some 13), none, .mv (.t 96)⟩] [0, 1, 5, 7, 8, 12])
      (.seq (.rg [⟨(some 97), none, .fad 0 (.t 5)⟩,
          ⟨(some 98), none, .load false 1 (.t 97) false⟩,
          ⟨(some 99), none, .fad 0 (.t 12)⟩,
          ⟨(some 100), none, .load false 1 (.t 99) false⟩,
          ⟨(some 101), none, .bin .leq (.t 98) (.t 100)⟩] [0, 1, 5, 7, 8, 101])
      (.cond (.t 101)
        (.seq (.rg [⟨(some 6), none, .mv (.c (.int .i64 150))⟩] [6])
        .ret)
        .skip)))
      (.seq (.rg [⟨(some 103), none, .mv (.t 9)⟩,
          ⟨(some 104), none, .bin .geq (.t 103) (.c (.int .i64 16))⟩,
          ⟨(some 102), none, .mv (.t 104)⟩] [0, 1, 5, 7, 8, 102])
      (.cond (.t 102)
        (.seq (.rg [⟨(some 6), none, .mv (.c (.int .i64 151))⟩] [6])
        .ret)
        .skip)))))
  (.seq (.seq (.rg [⟨(some 105), none, .mv (.t 8)⟩,
      ⟨(some 106), none, .un .not (.t 105)⟩] [0, 1, 5, 7, 106])
  (.cond (.t 106)
    (.rgr 10 [0] [⟨(some 107), none, .mv (.t 0)⟩,
        ⟨(some 108), none, .mv (.t 0)⟩,
        ⟨(some 109), none, .nilck (.t 108)⟩,
        ⟨(some 110), none, .fad 1 (.t 109)⟩,
        ⟨(some 111), none, .ldr false 1 (.t 110) (.t 0)⟩,
        ⟨(some 112), none, .mv (.t 7)⟩,
        ⟨(some 113), none, .mv (.t 1)⟩,
        ⟨(some 114), none, .call 0 (.f 26) [(.t 113)]⟩,
        ⟨(some 115), none, .build [.nsl, .nsl] [(1, 1, (.t 114))]⟩,
        ⟨(some 116), none, .bslice 1 2 [.nsl, .nsl] [(0, (.t 115))]⟩,
        ⟨(some 117), none, .call 0 (.f 25) [(.t 111), (.t 112), (.t 116)]⟩,
        ⟨(some 118), none, .nilck (.t 107)⟩,
        ⟨(some 119), none, .fad 1 (.t 118)⟩,
        ⟨none, none, .store 1 (.t 119) (.t 117)⟩] [0, 5, 7])
    .skip))
  (.seq (.seq (.rg [⟨(some 120), none, .fad 1 (.t 5)⟩,
      ⟨(some 121), none, .fad 0 (.t 120)⟩,
      ⟨(some 122), none, .load false 1 (.t 121) false⟩,
      ⟨(some 123), none, .mv (.t 122)⟩,
      ⟨(some 124), some (123, false), .fad 1 (.t 5)⟩,
      ⟨(some 125), some (123, false), .fad 1 (.t 124)⟩,
      ⟨(some 126), some (123, false), .load false 1 (.t 125) false⟩,
      ⟨(some 127), some (123, false), .bin .eql (.t 126) (.c (.int .i64 (-9223372036854775808)))⟩,
      ⟨(some 128), none, .pick (.t 123) (.c (.bool true)) (.t 127)⟩] [0, 5, 7, 128])
  (.cond (.t 128)
    (.rg [⟨(some 129), none, .build [(.bool false), (.int .i64 0)] [(0, 1, (.c (.bool true)))]⟩,
        ⟨(some 130), none, .fad 1 (.t 5)⟩,
        ⟨none, none, .store 2 (.t 130) (.t 129)⟩] [0, 5, 7])
    .skip))
  (.seq (.rgr 18 [0] [⟨(some 131), none, .mv (.t 0)⟩,
      ⟨(some 132), none, .nilck (.t 131)⟩,
      ⟨(some 133), none, .fad 1 (.t 132)⟩,
      ⟨(some 134), none, .ldr false 1 (.t 133) (.t 0)⟩,
      ⟨(some 135), none, .mv (.t 7)⟩,
      ⟨(some 136), none, .mv (.t 0)⟩,
      ⟨(some 137), none, .nilck (.t 136)⟩,
      ⟨(some 138), none, .fad 1 (.t 137)⟩,
      ⟨(some 139), none, .load false 1 (.t 138) false⟩,
      ⟨(some 140), none, .mv (.t 7)⟩,
      ⟨(some 141), none, .iad 2 (.t 139) (.t 140)⟩,
      ⟨(some 142), none, .fad 0 (.t 141)⟩,
      ⟨(some 143), none, .load false 1 (.t 142) false⟩,
      ⟨(some 144), none, .load true 3 (.t 5) false⟩,
      ⟨(some 145), none, .bslice 1 3 [(.int .i64 0), (.bool false), (.int .i64 0)] [(0, (.t 144))]⟩,
      ⟨(some 146), none, .app 3 24 (.t 143) (.t 145)⟩,
      ⟨(some 147), none, .iad 2 (.t 134) (.t 135)⟩,
      ⟨(some 148), none, .fad 0 (.t 147)⟩,
      ⟨none, none, .store 1 (.t 148) (.t 146)⟩] [])
  (.seq (.rg [⟨(some 6), none, .mv (.c (.int .i64 0))⟩] [6])
  .ret)))))))))),
  [.t 6]⟩

/- spillway/fix.Of -/
def an10 : Ann := [[0, 2], [2], [2], [2]]
def fn10 : Vs.Fn := ⟨1,
  (.seq (.rg [⟨(some 2), none, .alloc [(.bool false), (.int .i64 0)]⟩] [0, 2])
  (.seq (.rg [⟨(some 3), none, .mv (.t 0)⟩,
      ⟨(some 4), none, .bin .lss (.t 3) (.c (.int .i64 0))⟩,
      ⟨(some 5), none, .mv (.t 0)⟩,
      ⟨(some 6), none, .call 2 (.f 28) [(.t 5)]⟩,
      ⟨(some 7), none, .call 2 (.f 27) [(.t 4), (.t 6), (.c (.int .u64 1000000)), (.c (.int .u64 1))]⟩,
      ⟨none, none, .store 2 (.t 2) (.t 7)⟩] [2])
  .ret)),
  [.cell 2 true 2]⟩

/- (*spillway/history.History).Len -/
def an11 : Ann := [[0], [0, 3], [3, 9, 10, 11], [3, 9, 10, 11], [3, 9, 10, 11, 12], [3, 5, 9, 10, 11], [3, 9, 10, 11], [3, 9, 10, 11], [2]]
def fn11B0 : Cd :=
  (.seq (.rg [⟨(some 12), none, .bin .lss (.t 11) (.t 10)⟩] [3, 9, 10, 11, 12])
  (.seq (.cond (.t 12)
    .skip
    (.exit 0))
  (.seq (.block 1
    (.seq (.rg [⟨(some 13), none, .iad 2 (.t 9) (.t 11)⟩,
        ⟨(some 14), none, .load true 2 (.t 13) false⟩,
        ⟨(some 5), none, .alloc [.nsl, .nsl]⟩,
        ⟨none, none, .store 2 (.t 5) (.t 14)⟩] [3, 5, 9, 10, 11])
    (.rg [⟨(some 15), none, .mv (.t 3)⟩,
        ⟨(some 16), none, .fad 0 (.t 5)⟩,
        ⟨(some 17), none, .load false 1 (.t 16) false⟩,
        ⟨(some 18), none, .len false (.t 17)⟩,
        ⟨(some 19), none, .bin .add (.t 15) (.t 18)⟩,
        ⟨(some 3), none, .mv (.t 19)⟩] [3, 9, 10, 11])))
  (.rg [⟨(some 20), none, .bin .add (.t 11) (.c (.int .i64 1))⟩,
      ⟨(some 11), none, .mv (.t 20)⟩] [3, 9, 10, 11]))))
def fn11L0 : Cd := .loop [3, 9, 10, 11] fn11B0
def fn11 : Vs.Fn := ⟨1,
  (.seq (.rg [⟨(some 2), none, .mv (.c (.int .i64 0))⟩] [0])
  (.seq (.rg [⟨(some 3), none, .mv (.c (.int .i64 0))⟩] [0, 3])
  (.seq (.seq (.rg [⟨(some 6), none, .mv (.t 0)⟩,
      ⟨(some 7), none, .nilck (.t 6)⟩,
      ⟨(some 8), none, .fad 1 (.t 7)⟩,
      ⟨(some 9), none, .load false 1 (.t 8) false⟩,
      ⟨(some 10), none, .len false (.t 9)⟩,
      ⟨(some 11), none, .mv (.c (.int .i64 0))⟩] [3, 9, 10, 11])
  (.block 0
    fn11L0))
  (.seq (.rg [⟨(some 21), none, .mv (.t 3)⟩,
      ⟨(some 2), none, .mv (.t 21)⟩] [2])
  .ret)))),
  [.t 2]⟩

/- (*spillway/history.History).Between -/
def an12 : Ann := [[0, 1, 2, 3], [2], [0, 2, 3, 9, 10], [0, 2, 3, 9, 24], [8], [2, 3, 11], [2], [2], [0], [8]]
def fn12 : Vs.Fn := ⟨4,
  (.seq (.rg [⟨(some 8), none, .mv (.c (.slice none 0 0))⟩] [0, 1, 2, 3])
  (.seq (.rg [⟨(some 13), none, .mv (.t 0)⟩,
      ⟨(some 14), none, .mv (.t 1)⟩,
      ⟨(some 15), none, .call 2 (.f 22) [(.t 13), (.t 14)]⟩,
      ⟨(some 12), none, .mv (.t 15)⟩,
      ⟨(some 16), none, .ext (.t 12) 0⟩,
      ⟨(some 17), none, .ext (.t 12) 1⟩,
      ⟨(some 9), none, .mv (.t 16)⟩,
      ⟨(some 10), none, .mv (.t 17)⟩] [0, 2, 3, 9, 10])
  (.seq (.seq (.rg [⟨(some 18), none, .mv (.t 10)⟩,
      ⟨(some 19), none, .un .not (.t 18)⟩,
      ⟨(some 20), none, .mv (.t 19)⟩,
      ⟨(some 21), some (20, false), .mv (.t 2)⟩,
      ⟨(some 22), some (20, false), .mv (.t 3)⟩,
      ⟨(some 23), some (20, false), .bin .geq (.t 21) (.t 22)⟩,
      ⟨(some 24), none, .pick (.t 20) (.c (.bool true)) (.t 23)⟩] [0, 2, 3, 9, 24])
  (.cond (.t 24)
    (.seq (.rg [⟨(some 8), none, .mv (.c (.slice none 0 0))⟩] [8])
    .ret)
    .skip))
  (.seq (.rg [⟨(some 25), none, .mv (.t 0)⟩,
      ⟨(some 26), none, .nilck (.t 25)⟩,
      ⟨(some 27), none, .fad 1 (.t 26)⟩,
      ⟨(some 28), none, .load false 1 (.t 27) false⟩,
      ⟨(some 29), none, .mv (.t 9)⟩,
      ⟨(some 30), none, .iad 2 (.t 28) (.t 29)⟩,
      ⟨(some 31), none, .load true 2 (.t 30) false⟩,
      ⟨(some 11), none, .alloc [.nsl, .nsl]⟩,
      ⟨none, none, .store 2 (.t 11) (.t 31)⟩] [2, 3, 11])
  (.seq (.rg [⟨(some 32), none, .fad 0 (.t 11)⟩,
      ⟨(some 33), none, .load false 1 (.t 32) false⟩,
      ⟨(some 34), none, .fad 0 (.t 11)⟩,
      ⟨(some 35), none, .load false 1 (.t 34) false⟩,
      ⟨(some 36), none, .mv (.t 2)⟩,
      ⟨(some 37), none, .call 2 (.f 30) [(.t 35), (.t 36)]⟩,
      ⟨(some 38), none, .fad 0 (.t 11)⟩,
      ⟨(some 39), none, .load false 1 (.t 38) false⟩,
      ⟨(some 40), none, .mv (.t 3)⟩,
      ⟨(some 41), none, .call 2 (.f 30) [(.t 39), (.t 40)]⟩,
      ⟨(some 42), none, .slsl 3 (.t 33) (some (.t 37)) (some (.t 41)) none⟩,
      ⟨(some 43), none, .call 0 (.f 29) [(.t 42)]⟩,
      ⟨(some 8), none, .mv (.t 43)⟩] [8])
  .ret))))),
  [.t 8]⟩

/- (*spillway/history.History).At -/
def an13 : Ann := [[0, 1, 2, 6], [2], [0, 2, 6, 8, 9], [0, 2, 6, 8, 19], [6, 7], [2], [2, 6, 10, 11], [6, 10, 42], [6, 7], [6, 7]]
def fn13 : Vs.Fn := ⟨3,
  (.seq (.rg [⟨(some 6), none, .alloc [(.int .i64 0), (.bool false), (.int .i64 0)]⟩,
      ⟨(some 7), none, .mv (.c (.bool false))⟩] [0, 1, 2, 6])
  (.seq (.rg [⟨(some 13), none, .mv (.t 0)⟩,
      ⟨(some 14), none, .mv (.t 1)⟩,
      ⟨(some 15), none, .call 2 (.f 22) [(.t 13), (.t 14)]⟩,
      ⟨(some 12), none, .mv (.t 15)⟩,
      ⟨(some 16), none, .ext (.t 12) 0⟩,
      ⟨(some 17), none, .ext (.t 12) 1⟩,
      ⟨(some 8), none, .mv (.t 16)⟩,
      ⟨(some 9), none, .mv (.t 17)⟩] [0, 2, 6, 8, 9])
  (.seq (.seq (.rg [⟨(some 18), none, .mv (.t 9)⟩,
      ⟨(some 19), none, .un .not (.t 18)⟩] [0, 2, 6, 8, 19])
  (.cond (.t 19)
    (.seq (.rg [⟨(some 20), none, .build [(.int .i64 0), (.bool false), (.int .i64 0)] []⟩,
        ⟨none, none, .store 3 (.t 6) (.t 20)⟩,
        ⟨(some 7), none, .mv (.c (.bool false))⟩] [6, 7])
    .ret)
    .skip))
  (.seq (.rg [⟨(some 22), none, .mv (.t 0)⟩,
      ⟨(some 23), none, .nilck (.t 22)⟩,
      ⟨(some 24), none, .fad 1 (.t 23)⟩,
      ⟨(some 25), none, .load false 1 (.t 24) false⟩,
      ⟨(some 26), none, .mv (.t 8)⟩,
      ⟨(some 27), none, .iad 2 (.t 25) (.t 26)⟩,
      ⟨(some 28), none, .fad 0 (.t 27)⟩,
      ⟨(some 29), none, .load false 1 (.t 28) false⟩,
      ⟨(some 30), none, .mv (.t 2)⟩,
      ⟨(some 31), none, .call 2 (.f 24) [(.t 29), (.t 30)]⟩,
      ⟨(some 21), none, .mv (.t 31)⟩,
      ⟨(some 32), none, .ext (.t 21) 0⟩,
      ⟨(some 33), none, .ext (.t 21) 1⟩,
      ⟨(some 10), none, .alloc [(.int .i64 0), (.bool false), (.int .i64 0)]⟩,
      ⟨none, none, .store 3 (.t 10) (.t 32)⟩,
      ⟨(some 11), none, .mv (.t 33)⟩] [2, 6, 10, 11])
  (.seq (.seq (.rg [⟨(some 34), none, .mv (.t 11)⟩,
      ⟨(some 35), none, .un .not (.t 34)⟩,
      ⟨(some 36), none, .mv (.t 35)⟩,
      ⟨(some 37), some (36, false), .fad 0 (.t 10)⟩,
      ⟨(some 38), some (36, false), .load false 1 (.t 37) false⟩,
      ⟨(some 39), some (36, false), .mv (.t 2)⟩,
      ⟨(some 40), some (36, false), .bin .sub (.t 39) (.c (.int .i64 10))⟩,
      ⟨(some 41), some (36, false), .bin .leq (.t 38) (.t 40)⟩,
      ⟨(some 42), none, .pick (.t 36) (.c (.bool true)) (.t 41)⟩] [6, 10, 42])
  (.cond (.t 42)
    (.seq (.rg [⟨(some 43), none, .build [(.int .i64 0), (.bool false), (.int .i64 0)] []⟩,
        ⟨none, none, .store 3 (.t 6) (.t 43)⟩,
        ⟨(some 7), none, .mv (.c (.bool false))⟩] [6, 7])
    .ret)
    .skip))
  (.seq (.rg [⟨(some 44), none, .load true 3 (.t 10) false⟩,
      ⟨none, none, .store 3 (.t 6) (.t 44)⟩,
      ⟨(some 7), none, .mv (.c (.bool true))⟩] [6, 7])
  .ret)))))),
  [.cell 6 true 3, .t 7]⟩

/- spillway/fix.Is -/
def an14 : Ann := [[1], [2], [2]]
def fn14 : Vs.Fn := ⟨1,
  (.seq (.rg [⟨(some 1), none, .box 2 (.t 0)⟩,
      ⟨(some 2), none, .mv (.c (.bool false))⟩] [1])
  (.seq (.rg [⟨(some 3), none, .load true 2 (.t 1) false⟩,
      ⟨(some 4), none, .call 2 (.f 31) []⟩,
      ⟨(some 5), none, .eqs false [0, 1] (.t 3) (.t 4)⟩,
      ⟨(some 6), none, .mv (.t 5)⟩,
      ⟨(some 7), some (6, false), .fad 0 (.t 1)⟩,
      ⟨(some 8), some (6, false), .load false 1 (.t 7) false⟩,
      ⟨(some 9), some (6, false), .un .not (.t 8)⟩,
      ⟨(some 10), some (6, false), .mv (.t 9)⟩,
      ⟨(some 11), some (10, true), .fad 1 (.t 1)⟩,
      ⟨(some 12), some (10, true), .load false 1 (.t 11) false⟩,
      ⟨(some 13), some (10, true), .bin .neq (.t 12) (.c (.int .i64 (-9223372036854775808)))⟩,
      ⟨(some 14), some (6, false), .pick (.t 10) (.t 13) (.c (.bool false))⟩,
      ⟨(some 15), none, .pick (.t 6) (.c (.bool true)) (.t 14)⟩,
      ⟨(some 2), none, .mv (.t 15)⟩] [2])
  .ret)),
  [.t 2]⟩

/- (*spillway/history.History).Sets -/
def an20 : Ann := [[0, 1, 2], [0, 1, 2, 7], [1, 2, 7, 13, 14, 15], [1, 2, 7, 13, 14, 15], [1, 2, 7, 13, 14, 15, 16], [1, 2, 7, 9, 13, 14, 15], [2], [2], [1, 2, 7, 9, 13, 14, 15, 27], [0], [1, 2, 7, 13, 14, 15], [1, 2, 7, 13, 14, 15], [6]]
def fn20B0 : Cd :=
  (.seq (.rg [⟨(some 16), none, .bin .lss (.t 15) (.t 14)⟩] [1, 2, 7, 13, 14, 15, 16])
  (.seq (.cond (.t 16)
    .skip
    (.exit 0))
  (.seq (.block 1
    (.seq (.rg [⟨(some 17), none, .iad 2 (.t 13) (.t 15)⟩,
        ⟨(some 18), none, .load true 2 (.t 17) false⟩,
        ⟨(some 9), none, .alloc [.nsl, .nsl]⟩,
        ⟨none, none, .store 2 (.t 9) (.t 18)⟩] [1, 2, 7, 9, 13, 14, 15])
    (.seq (.rg [⟨(some 19), none, .load true 2 (.t 9) false⟩,
        ⟨(some 20), none, .mv (.t 1)⟩,
        ⟨(some 21), none, .call 2 (.f 23) [(.t 19), (.t 20)]⟩,
        ⟨(some 22), none, .mv (.t 21)⟩,
        ⟨(some 23), some (22, true), .fad 1 (.t 9)⟩,
        ⟨(some 24), some (22, true), .load false 1 (.t 23) false⟩,
        ⟨(some 25), some (22, true), .mv (.t 2)⟩,
        ⟨(some 26), some (22, true), .call 2 (.f 44) [(.t 24), (.t 25)]⟩,
        ⟨(some 27), none, .pick (.t 22) (.t 26) (.c (.bool false))⟩] [1, 2, 7, 9, 13, 14, 15, 27])
    (.cond (.t 27)
      (.rg [⟨(some 28), none, .mv (.t 7)⟩,
          ⟨(some 29), none, .fad 1 (.t 9)⟩,
          ⟨(some 30), none, .load false 1 (.t 29) false⟩,
          ⟨(some 31), none, .call 0 (.f 26) [(.t 30)]⟩,
          ⟨(some 32), none, .bslice 1 1 [.nsl] [(0, (.t 31))]⟩,
          ⟨(some 33), none, .app 1 24 (.t 28) (.t 32)⟩,
          ⟨(some 7), none, .mv (.t 33)⟩] [1, 2, 7, 13, 14, 15])
      .skip))))
  (.rg [⟨(some 34), none, .bin .add (.t 15) (.c (.int .i64 1))⟩,
      ⟨(some 15), none, .mv (.t 34)⟩] [1, 2, 7, 13, 14, 15]))))
def fn20L0 : Cd := .loop [1, 2, 7, 13, 14, 15] fn20B0
def fn20 : Vs.Fn := ⟨3,
  (.seq (.rg [⟨(some 6), none, .mv (.c (.slice none 0 0))⟩] [0, 1, 2])
  (.seq (.rg [⟨(some 7), none, .mv (.c (.slice none 0 0))⟩] [0, 1, 2, 7])
  (.seq (.seq (.rg [⟨(some 10), none, .mv (.t 0)⟩,
      ⟨(some 11), none, .nilck (.t 10)⟩,
      ⟨(some 12), none, .fad 1 (.t 11)⟩,
      ⟨(some 13), none, .load false 1 (.t 12) false⟩,
      ⟨(some 14), none, .len false (.t 13)⟩,
      ⟨(some 15), none, .mv (.c (.int .i64 0))⟩] [1, 2, 7, 13, 14, 15])
  (.block 0
    fn20L0))
  (.seq (.rg [⟨(some 35), none, .mv (.t 7)⟩,
      ⟨(some 6), none, .mv (.t 35)⟩] [6])
  .ret)))),
  [.t 6]⟩

/- spillway/label.Is -/
def an21 : Ann := [[0], [0, 5, 6, 7], [0, 5, 6, 7], [0, 5, 6, 7, 8], [0, 3, 4, 5, 6, 7], [2], [2], [0, 5, 6, 7, 36], [2], [0, 5, 6, 7], [2]]
def fn21B0 : Cd :=
  (.seq (.rg [⟨(some 8), none, .bin .lss (.t 7) (.t 6)⟩] [0, 5, 6, 7, 8])
  (.seq (.cond (.t 8)
    .skip
    (.exit 0))
  (.seq (.block 1
    (.seq (.rg [⟨(some 9), none, .mv (.t 7)⟩,
        ⟨(some 10), none, .iad 2 (.t 5) (.t 7)⟩,
        ⟨(some 11), none, .load true 2 (.t 10) false⟩,
        ⟨(some 4), none, .alloc [(.str ⟨#[]⟩), (.str ⟨#[]⟩)]⟩,
        ⟨(some 3), none, .mv (.t 9)⟩,
        ⟨none, none, .store 2 (.t 4) (.t 11)⟩] [0, 3, 4, 5, 6, 7])
    (.seq (.rg [⟨(some 12), none, .fad 0 (.t 4)⟩,
        ⟨(some 13), none, .load false 1 (.t 12) false⟩,
        ⟨(some 14), none, .call 2 (.f 45) [(.t 13)]⟩,
        ⟨(some 15), none, .un .not (.t 14)⟩,
        ⟨(some 16), none, .mv (.t 15)⟩,
        ⟨(some 17), some (16, false), .fad 1 (.t 4)⟩,
        ⟨(some 18), some (16, false), .load false 1 (.t 17) false⟩,
        ⟨(some 19), some (16, false), .call 2 (.f 46) [(.t 18)]⟩,
        ⟨(some 20), some (16, false), .un .not (.t 19)⟩,
        ⟨(some 21), none, .pick (.t 16) (.c (.bool true)) (.t 20)⟩,
        ⟨(some 22), none, .mv (.t 21)⟩,
        ⟨(some 23), some (22, false), .mv (.t 3)⟩,
        ⟨(some 24), some (22, false), .bin .gtr (.t 23) (.c (.int .i64 0))⟩,
        ⟨(some 25), some (22, false), .mv (.t 24)⟩,
        ⟨(some 26), some (25, true), .mv (.t 0)⟩,
        ⟨(some 27), some (25, true), .mv (.t 3)⟩,
        ⟨(some 28), some (25, true), .bin .sub (.t 27) (.c (.int .i64 1))⟩,
        ⟨(some 29), some (25, true), .iad 2 (.t 26) (.t 28)⟩,
        ⟨(some 30), some (25, true), .fad 0 (.t 29)⟩,
        ⟨(some 31), some (25, true), .load false 1 (.t 30) false⟩,
        ⟨(some 32), some (25, true), .fad 0 (.t 4)⟩,
        ⟨(some 33), some (25, true), .load false 1 (.t 32) false⟩,
        ⟨(some 34), some (25, true), .bin .geq (.t 31) (.t 33)⟩,
        ⟨(some 35), some (22, false), .pick (.t 25) (.t 34) (.c (.bool false))⟩,
        ⟨(some 36), none, .pick (.t 22) (.c (.bool true)) (.t 35)⟩] [0, 5, 6, 7, 36])
    (.cond (.t 36)
      (.seq (.rg [⟨(some 2), none, .mv (.c (.bool false))⟩] [2])
      .ret)
      .skip))))
  (.rg [⟨(some 37), none, .bin .add (.t 7) (.c (.int .i64 1))⟩,
      ⟨(some 7), none, .mv (.t 37)⟩] [0, 5, 6, 7]))))
def fn21L0 : Cd := .loop [0, 5, 6, 7] fn21B0
def fn21 : Vs.Fn := ⟨1,
  (.seq (.rg [⟨(some 2), none, .mv (.c (.bool false))⟩] [0])
  (.seq (.seq (.rg [⟨(some 5), none, .mv (.t 0)⟩,
      ⟨(some 6), none, .len false (.t 5)⟩,
      ⟨(some 7), none, .mv (.c (.int .i64 0))⟩] [0, 5, 6, 7])
  (.block 0
    fn21L0))
  (.seq (.rg [⟨(some 38), none, .mv (.t 0)⟩,
      ⟨(some 39), none, .len false (.t 38)⟩,
      ⟨(some 40), none, .bin .leq (.t 39) (.c (.int .i64 8))⟩,
      ⟨(some 2), none, .mv (.t 40)⟩] [2])
  .ret))),
  [.t 2]⟩

/- (*spillway/history.History).find -/
def an22 : Ann := [[0, 1], [2], [4, 5]]
def fn22 : Vs.Fn := ⟨2,
  (.seq (.rg [⟨(some 4), none, .mv (.c (.int .i64 0))⟩,
      ⟨(some 5), none, .mv (.c (.bool false))⟩] [0, 1])
  (.seq (.rg [⟨(some 6), none, .mv (.t 0)⟩,
      ⟨(some 7), none, .nilck (.t 6)⟩,
      ⟨(some 8), none, .fad 1 (.t 7)⟩,
      ⟨(some 9), none, .load false 1 (.t 8) false⟩,
      ⟨(some 10), none, .mv (.t 1)⟩,
      ⟨(some 11), none, .call 2 (.f 47) [(.t 9), (.t 10), (.f 48)]⟩,
      ⟨(some 12), none, .ext (.t 11) 0⟩,
      ⟨(some 13), none, .ext (.t 11) 1⟩,
      ⟨(some 4), none, .mv (.t 12)⟩,
      ⟨(some 5), none, .mv (.t 13)⟩] [4, 5])
  .ret)),
  [.t 4, .t 5]⟩

/- (spillway/history.row).there -/
def an23 : Ann := [[1, 2], [2], [1, 5, 6], [4]]
def fn23 : Vs.Fn := ⟨2,
  (.seq (.rg [⟨(some 2), none, .box 2 (.t 0)⟩,
      ⟨(some 4), none, .mv (.c (.bool false))⟩] [1, 2])
  (.seq (.rg [⟨(some 8), none, .fad 0 (.t 2)⟩,
      ⟨(some 9), none, .load false 1 (.t 8) false⟩,
      ⟨(some 10), none, .mv (.t 1)⟩,
      ⟨(some 11), none, .call 2 (.f 24) [(.t 9), (.t 10)]⟩,
      ⟨(some 7), none, .mv (.t 11)⟩,
      ⟨(some 12), none, .ext (.t 7) 0⟩,
      ⟨(some 13), none, .ext (.t 7) 1⟩,
      ⟨(some 5), none, .alloc [(.int .i64 0), (.bool false), (.int .i64 0)]⟩,
      ⟨none, none, .store 3 (.t 5) (.t 12)⟩,
      ⟨(some 6), none, .mv (.t 13)⟩] [1, 5, 6])
  (.seq (.rg [⟨(some 14), none, .mv (.t 6)⟩,
      ⟨(some 15), none, .mv (.t 14)⟩,
      ⟨(some 16), some (15, true), .fad 0 (.t 5)⟩,
      ⟨(some 17), some (15, true), .load false 1 (.t 16) false⟩,
      ⟨(some 18), some (15, true), .mv (.t 1)⟩,
      ⟨(some 19), some (15, true), .bin .sub (.t 18) (.c (.int .i64 100))⟩,
      ⟨(some 20), some (15, true), .bin .gtr (.t 17) (.t 19)⟩,
      ⟨(some 21), none, .pick (.t 15) (.t 20) (.c (.bool false))⟩,
      ⟨(some 4), none, .mv (.t 21)⟩] [4])
  .ret))),
  [.t 4]⟩

/- (spillway/history.samples).last -/
def an24 : Ann := [[0, 1, 4], [2], [0, 4, 6], [0, 4, 6, 11], [4, 5], [4, 5]]
def fn24 : Vs.Fn := ⟨2,
  (.seq (.rg [⟨(some 4), none, .alloc [(.int .i64 0), (.bool false), (.int .i64 0)]⟩,
      ⟨(some 5), none, .mv (.c (.bool false))⟩] [0, 1, 4])
  (.seq (.seq (.rg [⟨(some 7), none, .mv (.t 0)⟩,
      ⟨(some 8), none, .mv (.t 1)⟩,
      ⟨(some 9), none, .call 2 (.f 30) [(.t 7), (.t 8)]⟩,
      ⟨(some 6), none, .mv (.t 9)⟩] [0, 4, 6])
  (.seq (.rg [⟨(some 10), none, .mv (.t 6)⟩,
      ⟨(some 11), none, .bin .gtr (.t 10) (.c (.int .i64 0))⟩] [0, 4, 6, 11])
  (.cond (.t 11)
    (.seq (.rg [⟨(some 12), none, .mv (.t 0)⟩,
        ⟨(some 13), none, .mv (.t 6)⟩,
        ⟨(some 14), none, .bin .sub (.t 13) (.c (.int .i64 1))⟩,
        ⟨(some 15), none, .iad 3 (.t 12) (.t 14)⟩,
        ⟨(some 16), none, .load true 3 (.t 15) false⟩,
        ⟨none, none, .store 3 (.t 4) (.t 16)⟩,
        ⟨(some 5), none, .mv (.c (.bool true))⟩] [4, 5])
    .ret)
    .skip)))
  (.seq (.rg [⟨(some 17), none, .build [(.int .i64 0), (.bool false), (.int .i64 0)] []⟩,
      ⟨none, none, .store 3 (.t 4) (.t 17)⟩,
      ⟨(some 5), none, .mv (.c (.bool false))⟩] [4, 5])
  .ret))),
  [.cell 4 true 3, .t 5]⟩

/- slices.Insert[[]spillway/history.row,spillway/history.row] -/
def an25 : Ann := [[0, 1, 2], [0, 1, 2], [0, 1, 2, 7], [0, 1, 2, 7, 16], [6], [0, 1, 2, 7, 8], [0, 1, 2, 7, 8, 22], [6], [0, 1, 2, 7, 8, 31], [0, 1, 2, 7, 9], [0, 1, 7, 9], [9], [6], [0, 1, 2, 7, 8], [2], [0, 1, 2, 7, 8, 68], [0, 1, 2], [0], [6], [0, 1, 7], [2], [0], [6]]
def fn25 : Vs.Fn := ⟨3, insW 2 48, [.t 3]⟩

/- slices.Clone[[]spillway/api.Pair,spillway/api.Pair] -/
def an26 : Ann := [[0], [0, 4], [2], [2]]
def fn26 : Vs.Fn := ⟨1,
  (.seq (.rg [⟨(some 2), none, .mv (.c (.slice none 0 0))⟩] [0])
  (.seq (.seq (.rg [⟨(some 3), none, .mv (.t 0)⟩,
      ⟨(some 4), none, .eqn 1 false (.t 3)⟩] [0, 4])
  (.cond (.t 4)
    (.seq (.rg [⟨(some 2), none, .mv (.c (.slice none 0 0))⟩] [2])
    .ret)
    .skip))
  (.seq (.rg [⟨(some 5), none, .bslice 0 2 [(.str ⟨#[]⟩), (.str ⟨#[]⟩)] []⟩,
      ⟨(some 6), none, .mv (.t 0)⟩,
      ⟨(some 7), none, .app 2 32 (.t 5) (.t 6)⟩,
      ⟨(some 2), none, .mv (.t 7)⟩] [2])
  .ret))),
  [.t 2]⟩

/- spillway/fix.scaled -/
def an27 : Ann := [[0, 1, 2, 3, 8], [2], [0, 3, 8, 9, 10], [0, 3, 8, 9, 10, 21], [2], [8], [2], [0, 8, 11], [0, 8, 11, 31], [2], [8], [8, 11, 33], [8], [8]]
def fn27 : Vs.Fn := ⟨4,
  (.seq (.rg [⟨(some 8), none, .alloc [(.bool false), (.int .i64 0)]⟩] [0, 1, 2, 3, 8])
  (.seq (.rg [⟨(some 14), none, .mv (.t 1)⟩,
      ⟨(some 15), none, .mv (.t 2)⟩,
      ⟨(some 16), none, .call 2 (.f 52) [(.t 14), (.t 15)]⟩,
      ⟨(some 13), none, .mv (.t 16)⟩,
      ⟨(some 17), none, .ext (.t 13) 0⟩,
      ⟨(some 18), none, .ext (.t 13) 1⟩,
      ⟨(some 9), none, .mv (.t 17)⟩,
      ⟨(some 10), none, .mv (.t 18)⟩] [0, 3, 8, 9, 10])
  (.seq (.seq (.rg [⟨(some 19), none, .mv (.t 9)⟩,
      ⟨(some 20), none, .mv (.t 3)⟩,
      ⟨(some 21), none, .bin .geq (.t 19) (.t 20)⟩] [0, 3, 8, 9, 10, 21])
  (.cond (.t 21)
    (.seq (.rg [⟨(some 22), none, .call 2 (.f 31) []⟩,
        ⟨none, none, .store 2 (.t 8) (.t 22)⟩] [8])
    .ret)
    .skip))
  (.seq (.rg [⟨(some 24), none, .mv (.t 9)⟩,
      ⟨(some 25), none, .mv (.t 10)⟩,
      ⟨(some 26), none, .mv (.t 3)⟩,
      ⟨(some 27), none, .call 2 (.f 53) [(.t 24), (.t 25), (.t 26)]⟩,
      ⟨(some 23), none, .mv (.t 27)⟩,
      ⟨(some 28), none, .ext (.t 23) 0⟩,
      ⟨(some 29), none, .ext (.t 23) 1⟩,
      ⟨(some 11), none, .mv (.t 28)⟩,
      ⟨(some 12), none, .mv (.t 29)⟩] [0, 8, 11])
  (.seq (.seq (.rg [⟨(some 30), none, .mv (.t 11)⟩,
      ⟨(some 31), none, .bin .gtr (.t 30) (.c (.int .u64 9223372036854775807))⟩] [0, 8, 11, 31])
  (.cond (.t 31)
    (.seq (.rg [⟨(some 32), none, .call 2 (.f 31) []⟩,
        ⟨none, none, .store 2 (.t 8) (.t 32)⟩] [8])
    .ret)
    .skip))
  (.seq (.seq (.rg [⟨(some 33), none, .mv (.t 0)⟩] [8, 11, 33])
  (.cond (.t 33)
    (.seq (.rg [⟨(some 34), none, .mv (.t 11)⟩,
        ⟨(some 35), none, .cvi .i64 (.t 34)⟩,
        ⟨(some 36), none, .un .neg (.t 35)⟩,
        ⟨(some 37), none, .build [(.bool false), (.int .i64 0)] [(1, 1, (.t 36))]⟩,
        ⟨none, none, .store 2 (.t 8) (.t 37)⟩] [8])
    .ret)
    .skip))
  (.seq (.rg [⟨(some 38), none, .mv (.t 11)⟩,
      ⟨(some 39), none, .cvi .i64 (.t 38)⟩,
      ⟨(some 40), none, .build [(.bool false), (.int .i64 0)] [(1, 1, (.t 39))]⟩,
      ⟨none, none, .store 2 (.t 8) (.t 40)⟩] [8])
  .ret))))))),
  [.cell 8 true 2]⟩

/- spillway/fix.size -/
def an28 : Ann := [[0], [0, 4], [2], [2]]
def fn28 : Vs.Fn := ⟨1,
  (.seq (.rg [⟨(some 2), none, .mv (.c (.int .u64 0))⟩] [0])
  (.seq (.seq (.rg [⟨(some 3), none, .mv (.t 0)⟩,
      ⟨(some 4), none, .bin .lss (.t 3) (.c (.int .i64 0))⟩] [0, 4])
  (.cond (.t 4)
    (.seq (.rg [⟨(some 5), none, .mv (.t 0)⟩,
        ⟨(some 6), none, .cvi .u64 (.t 5)⟩,
        ⟨(some 7), none, .un .neg (.t 6)⟩,
        ⟨(some 2), none, .mv (.t 7)⟩] [2])
    .ret)
    .skip))
  (.seq (.rg [⟨(some 8), none, .mv (.t 0)⟩,
      ⟨(some 9), none, .cvi .u64 (.t 8)⟩,
      ⟨(some 2), none, .mv (.t 9)⟩] [2])
  .ret))),
  [.t 2]⟩

/- slices.Clone[spillway/history.samples,spillway/api.Sample] -/
def an29 : Ann := [[0], [0, 4], [2], [2]]
def fn29 : Vs.Fn := ⟨1,
  (.seq (.rg [⟨(some 2), none, .mv (.c (.slice none 0 0))⟩] [0])
  (.seq (.seq (.rg [⟨(some 3), none, .mv (.t 0)⟩,
      ⟨(some 4), none, .eqn 1 false (.t 3)⟩] [0, 4])
  (.cond (.t 4)
    (.seq (.rg [⟨(some 2), none, .mv (.c (.slice none 0 0))⟩] [2])
    .ret)
    .skip))
  (.seq (.rg [⟨(some 5), none, .bslice 0 3 [(.int .i64 0), (.bool false), (.int .i64 0)] []⟩,
      ⟨(some 6), none, .mv (.t 0)⟩,
      ⟨(some 7), none, .app 3 24 (.t 5) (.t 6)⟩,
      ⟨(some 2), none, .mv (.t 7)⟩] [2])
  .ret))),
  [.t 2]⟩

/- (spillway/history.samples).upto -/
def an30 : Ann := [[0, 1], [2], [5], [4]]
def fn30 : Vs.Fn := ⟨2,
  (.seq (.rg [⟨(some 4), none, .mv (.c (.int .i64 0))⟩] [0, 1])
  (.seq (.rg [⟨(some 8), none, .mv (.t 0)⟩,
      ⟨(some 9), none, .mv (.t 1)⟩,
      ⟨(some 10), none, .call 2 (.f 54) [(.t 8), (.t 9), (.f 55)]⟩,
      ⟨(some 7), none, .mv (.t 10)⟩,
      ⟨(some 11), none, .ext (.t 7) 0⟩,
      ⟨(some 12), none, .ext (.t 7) 1⟩,
      ⟨(some 5), none, .mv (.t 11)⟩,
      ⟨(some 6), none, .mv (.t 12)⟩] [5])
  (.seq (.rg [⟨(some 13), none, .mv (.t 5)⟩,
      ⟨(some 4), none, .mv (.t 13)⟩] [4])
  .ret))),
  [.t 4]⟩

/- spillway/fix.ovf -/
def an31 : Ann := [[0], [0]]
def fn31 : Vs.Fn := ⟨0,
  (.seq (.rg [⟨(some 0), none, .alloc [(.bool false), (.int .i64 0)]⟩] [0])
  (.seq (.rg [⟨(some 1), none, .build [(.bool false), (.int .i64 0)] [(0, 1, (.c (.bool true)))]⟩,
      ⟨none, none, .store 2 (.t 0) (.t 1)⟩] [0])
  .ret)),
  [.cell 0 true 2]⟩

/- spillway/pattern.All -/
def an44 : Ann := [[0, 1], [0, 7, 8, 9], [0, 7, 8, 9], [0, 7, 8, 9, 10], [0, 6, 7, 8, 9], [2], [2], [0, 7, 8, 9, 19], [4], [0, 7, 8, 9], [4]]
def fn44B0 : Cd :=
  (.seq (.rg [⟨(some 10), none, .bin .lss (.t 9) (.t 8)⟩] [0, 7, 8, 9, 10])
  (.seq (.cond (.t 10)
    .skip
    (.exit 0))
  (.seq (.block 1
    (.seq (.rg [⟨(some 11), none, .iad 3 (.t 7) (.t 9)⟩,
        ⟨(some 12), none, .load true 3 (.t 11) false⟩,
        ⟨(some 6), none, .alloc [(.str ⟨#[]⟩), (.int .i64 0), (.str ⟨#[]⟩)]⟩,
        ⟨none, none, .store 3 (.t 6) (.t 12)⟩] [0, 6, 7, 8, 9])
    (.seq (.rg [⟨(some 13), none, .load true 3 (.t 6) false⟩,
        ⟨(some 14), none, .mv (.t 0)⟩,
        ⟨(some 15), none, .fad 0 (.t 6)⟩,
        ⟨(some 16), none, .load false 1 (.t 15) false⟩,
        ⟨(some 17), none, .call 2 (.f 63) [(.t 14), (.t 16)]⟩,
        ⟨(some 18), none, .call 2 (.f 62) [(.t 13), (.t 17)]⟩,
        ⟨(some 19), none, .un .not (.t 18)⟩] [0, 7, 8, 9, 19])
    (.cond (.t 19)
      (.seq (.rg [⟨(some 4), none, .mv (.c (.bool false))⟩] [4])
      .ret)
      .skip))))
  (.rg [⟨(some 20), none, .bin .add (.t 9) (.c (.int .i64 1))⟩,
      ⟨(some 9), none, .mv (.t 20)⟩] [0, 7, 8, 9]))))
def fn44L0 : Cd := .loop [0, 7, 8, 9] fn44B0
def fn44 : Vs.Fn := ⟨2,
  (.seq (.rg [⟨(some 4), none, .mv (.c (.bool false))⟩] [0, 1])
  (.seq (.seq (.rg [⟨(some 7), none, .mv (.t 1)⟩,
      ⟨(some 8), none, .len false (.t 7)⟩,
      ⟨(some 9), none, .mv (.c (.int .i64 0))⟩] [0, 7, 8, 9])
  (.block 0
    fn44L0))
  (.seq (.rg [⟨(some 4), none, .mv (.c (.bool true))⟩] [4])
  .ret))),
  [.t 4]⟩

/- spillway/label.Name -/
def an45 : Ann := [[0], [0, 6, 7], [0, 6, 7], [0, 6, 7, 8], [0, 3, 6, 7], [0, 3, 4, 6, 7], [0, 6, 7, 43], [2], [0, 6, 7], [2]]
def fn45B0 : Cd :=
  (.seq (.rg [⟨(some 8), none, .bin .lss (.t 7) (.t 6)⟩] [0, 6, 7, 8])
  (.seq (.cond (.t 8)
    .skip
    (.exit 0))
  (.seq (.block 1
    (.seq (.rg [⟨(some 9), none, .mv (.t 7)⟩,
        ⟨(some 3), none, .mv (.t 9)⟩] [0, 3, 6, 7])
    (.seq (.rg [⟨(some 10), none, .mv (.t 0)⟩,
        ⟨(some 11), none, .mv (.t 3)⟩,
        ⟨(some 12), none, .ist (.t 10) (.t 11)⟩,
        ⟨(some 4), none, .mv (.t 12)⟩] [0, 3, 4, 6, 7])
    (.seq (.rg [⟨(some 13), none, .mv (.t 4)⟩,
        ⟨(some 14), none, .bin .geq (.t 13) (.c (.int .u8 97))⟩,
        ⟨(some 15), none, .mv (.t 14)⟩,
        ⟨(some 16), some (15, true), .mv (.t 4)⟩,
        ⟨(some 17), some (15, true), .bin .leq (.t 16) (.c (.int .u8 122))⟩,
        ⟨(some 18), none, .pick (.t 15) (.t 17) (.c (.bool false))⟩,
        ⟨(some 19), none, .mv (.t 18)⟩,
        ⟨(some 20), some (19, false), .mv (.t 4)⟩,
        ⟨(some 21), some (19, false), .bin .geq (.t 20) (.c (.int .u8 65))⟩,
        ⟨(some 22), some (19, false), .mv (.t 21)⟩,
        ⟨(some 23), some (22, true), .mv (.t 4)⟩,
        ⟨(some 24), some (22, true), .bin .leq (.t 23) (.c (.int .u8 90))⟩,
        ⟨(some 25), some (19, false), .pick (.t 22) (.t 24) (.c (.bool false))⟩,
        ⟨(some 26), none, .pick (.t 19) (.c (.bool true)) (.t 25)⟩,
        ⟨(some 27), none, .mv (.t 26)⟩,
        ⟨(some 28), some (27, false), .mv (.t 4)⟩,
        ⟨(some 29), some (27, false), .bin .eql (.t 28) (.c (.int .u8 95))⟩,
        ⟨(some 30), none, .pick (.t 27) (.c (.bool true)) (.t 29)⟩,
        ⟨(some 31), none, .mv (.t 30)⟩,
        ⟨(some 32), some (31, false), .mv (.t 4)⟩,
        ⟨(some 33), some (31, false), .bin .geq (.t 32) (.c (.int .u8 48))⟩,
        ⟨(some 34), some (31, false), .mv (.t 33)⟩,
        ⟨(some 35), some (34, true), .mv (.t 4)⟩,
        ⟨(some 36), some (34, true), .bin .leq (.t 35) (.c (.int .u8 57))⟩,
        ⟨(some 37), some (31, false), .pick (.t 34) (.t 36) (.c (.bool false))⟩,
        ⟨(some 38), some (31, false), .mv (.t 37)⟩,
        ⟨(some 39), some (38, true), .mv (.t 3)⟩,
        ⟨(some 40), some (38, true), .bin .gtr (.t 39) (.c (.int .i64 0))⟩,
        ⟨(some 41), some (31, false), .pick (.t 38) (.t 40) (.c (.bool false))⟩,
        ⟨(some 42), none, .pick (.t 31) (.c (.bool true)) (.t 41)⟩,
        ⟨(some 43), none, .un .not (.t 42)⟩] [0, 6, 7, 43])
    (.cond (.t 43)
      (.seq (.rg [⟨(some 2), none, .mv (.c (.bool false))⟩] [2])
      .ret)
      .skip)))))
  (.rg [⟨(some 44), none, .bin .add (.t 7) (.c (.int .i64 1))⟩,
      ⟨(some 7), none, .mv (.t 44)⟩] [0, 6, 7]))))
def fn45L0 : Cd := .loop [0, 6, 7] fn45B0
def fn45 : Vs.Fn := ⟨1,
  (.seq (.rg [⟨(some 2), none, .mv (.c (.bool false))⟩] [0])
  (.seq (.seq (.rg [⟨(some 5), none, .mv (.t 0)⟩,
      ⟨(some 6), none, .len true (.t 5)⟩,
      ⟨(some 7), none, .mv (.c (.int .i64 0))⟩] [0, 6, 7])
  (.block 0
    fn45L0))
  (.seq (.rg [⟨(some 45), none, .mv (.t 0)⟩,
      ⟨(some 46), none, .len true (.t 45)⟩,
      ⟨(some 47), none, .bin .geq (.t 46) (.c (.int .i64 1))⟩,
      ⟨(some 48), none, .mv (.t 47)⟩,
      ⟨(some 49), some (48, true), .mv (.t 0)⟩,
      ⟨(some 50), some (48, true), .len true (.t 49)⟩,
      ⟨(some 51), some (48, true), .bin .leq (.t 50) (.c (.int .i64 20))⟩,
      ⟨(some 52), none, .pick (.t 48) (.t 51) (.c (.bool false))⟩,
      ⟨(some 2), none, .mv (.t 52)⟩] [2])
  .ret))),
  [.t 2]⟩

/- spillway/label.value -/
def an46 : Ann := [[0], [2], [2]]
def fn46 : Vs.Fn := ⟨1,
  (.seq (.rg [⟨(some 2), none, .mv (.c (.bool false))⟩] [0])
  (.seq (.rg [⟨(some 3), none, .mv (.t 0)⟩,
      ⟨(some 4), none, .len true (.t 3)⟩,
      ⟨(some 5), none, .bin .geq (.t 4) (.c (.int .i64 1))⟩,
      ⟨(some 6), none, .mv (.t 5)⟩,
      ⟨(some 7), some (6, true), .mv (.t 0)⟩,
      ⟨(some 8), some (6, true), .len true (.t 7)⟩,
      ⟨(some 9), some (6, true), .bin .leq (.t 8) (.c (.int .i64 30))⟩,
      ⟨(some 10), none, .pick (.t 6) (.t 9) (.c (.bool false))⟩,
      ⟨(some 11), none, .mv (.t 10)⟩,
      ⟨(some 12), some (11, true), .mv (.t 0)⟩,
      ⟨(some 13), some (11, true), .call 2 (.f 64) [(.t 12), (.c (.int .u8 10))]⟩,
      ⟨(some 14), some (11, true), .bin .lss (.t 13) (.c (.int .i64 0))⟩,
      ⟨(some 15), none, .pick (.t 11) (.t 14) (.c (.bool false))⟩,
      ⟨(some 2), none, .mv (.t 15)⟩] [2])
  .ret)),
  [.t 2]⟩

/- slices.BinarySearchFunc[[]spillway/history.row,spillway/history.row,[]spillway/api.Pair] -/
def an47 : Ann := [[0, 1, 2], [0, 1, 2, 8], [0, 1, 2, 8, 9, 10], [0, 1, 2, 8, 9, 10], [0, 1, 2, 8, 9, 10, 17], [0, 1, 2, 8, 9, 10, 11], [2], [0, 1, 2, 8, 9, 10, 11, 31], [0, 1, 2, 8, 9, 10], [0, 1, 2, 8, 9, 10], [2], [6, 7]]
def fn47B0 : Cd :=
  (.seq (.seq (.rg [⟨(some 15), none, .mv (.t 9)⟩,
      ⟨(some 16), none, .mv (.t 10)⟩,
      ⟨(some 17), none, .bin .lss (.t 15) (.t 16)⟩] [0, 1, 2, 8, 9, 10, 17])
  (.cond (.t 17)
    .skip
    (.exit 0)))
  (.block 1
    (.seq (.rg [⟨(some 18), none, .mv (.t 9)⟩,
        ⟨(some 19), none, .mv (.t 10)⟩,
        ⟨(some 20), none, .bin .add (.t 18) (.t 19)⟩,
        ⟨(some 21), none, .cvi .u64 (.t 20)⟩,
        ⟨(some 22), none, .bin .shr (.t 21) (.c (.int .u64 1))⟩,
        ⟨(some 23), none, .cvi .i64 (.t 22)⟩,
        ⟨(some 11), none, .mv (.t 23)⟩] [0, 1, 2, 8, 9, 10, 11])
    (.seq (.rg [⟨(some 24), none, .mv (.t 2)⟩,
        ⟨(some 25), none, .mv (.t 0)⟩,
        ⟨(some 26), none, .mv (.t 11)⟩,
        ⟨(some 27), none, .iad 2 (.t 25) (.t 26)⟩,
        ⟨(some 28), none, .load true 2 (.t 27) false⟩,
        ⟨(some 29), none, .mv (.t 1)⟩,
        ⟨(some 30), none, .call 2 (.t 24) [(.t 28), (.t 29)]⟩,
        ⟨(some 31), none, .bin .lss (.t 30) (.c (.int .i64 0))⟩] [0, 1, 2, 8, 9, 10, 11, 31])
    (.cond (.t 31)
      (.rg [⟨(some 32), none, .mv (.t 11)⟩,
          ⟨(some 33), none, .bin .add (.t 32) (.c (.int .i64 1))⟩,
          ⟨(some 9), none, .mv (.t 33)⟩] [0, 1, 2, 8, 9, 10])
      (.rg [⟨(some 34), none, .mv (.t 11)⟩,
          ⟨(some 10), none, .mv (.t 34)⟩] [0, 1, 2, 8, 9, 10]))))))
def fn47L0 : Cd := .loop [0, 1, 2, 8, 9, 10] fn47B0
def fn47 : Vs.Fn := ⟨3,
  (.seq (.rg [⟨(some 6), none, .mv (.c (.int .i64 0))⟩,
      ⟨(some 7), none, .mv (.c (.bool false))⟩] [0, 1, 2])
  (.seq (.rg [⟨(some 12), none, .mv (.t 0)⟩,
      ⟨(some 13), none, .len false (.t 12)⟩,
      ⟨(some 8), none, .mv (.t 13)⟩] [0, 1, 2, 8])
  (.seq (.rg [⟨(some 14), none, .mv (.t 8)⟩,
      ⟨(some 9), none, .mv (.c (.int .i64 0))⟩,
      ⟨(some 10), none, .mv (.t 14)⟩] [0, 1, 2, 8, 9, 10])
  (.seq (.block 0
    fn47L0)
  (.seq (.rg [⟨(some 35), none, .mv (.t 9)⟩,
      ⟨(some 36), none, .mv (.t 9)⟩,
      ⟨(some 37), none, .mv (.t 8)⟩,
      ⟨(some 38), none, .bin .lss (.t 36) (.t 37)⟩,
      ⟨(some 39), none, .mv (.t 38)⟩,
      ⟨(some 40), some (39, true), .mv (.t 2)⟩,
      ⟨(some 41), some (39, true), .mv (.t 0)⟩,
      ⟨(some 42), some (39, true), .mv (.t 9)⟩,
      ⟨(some 43), some (39, true), .iad 2 (.t 41) (.t 42)⟩,
      ⟨(some 44), some (39, true), .load true 2 (.t 43) false⟩,
      ⟨(some 45), some (39, true), .mv (.t 1)⟩,
      ⟨(some 46), some (39, true), .call 2 (.t 40) [(.t 44), (.t 45)]⟩,
      ⟨(some 47), some (39, true), .bin .eql (.t 46) (.c (.int .i64 0))⟩,
      ⟨(some 48), none, .pick (.t 39) (.t 47) (.c (.bool false))⟩,
      ⟨(some 6), none, .mv (.t 35)⟩,
      ⟨(some 7), none, .mv (.t 48)⟩] [6, 7])
  .ret))))),
  [.t 6, .t 7]⟩

/- (*spillway/history.History).find$1 -/
def an48 : Ann := [[1, 2], [2], [4]]
def fn48 : Vs.Fn := ⟨2,
  (.seq (.rg [⟨(some 2), none, .box 2 (.t 0)⟩,
      ⟨(some 4), none, .mv (.c (.int .i64 0))⟩] [1, 2])
  (.seq (.rg [⟨(some 5), none, .fad 1 (.t 2)⟩,
      ⟨(some 6), none, .load false 1 (.t 5) false⟩,
      ⟨(some 7), none, .mv (.t 1)⟩,
      ⟨(some 8), none, .call 2 (.f 49) [(.t 6), (.t 7)]⟩,
      ⟨(some 4), none, .mv (.t 8)⟩] [4])
  .ret)),
  [.t 4]⟩

/- spillway/label.Cmp -/
def an49 : Ann := [[0, 1], [2], [4]]
def fn49 : Vs.Fn := ⟨2,
  (.seq (.rg [⟨(some 4), none, .mv (.c (.int .i64 0))⟩] [0, 1])
  (.seq (.rg [⟨(some 5), none, .mv (.t 0)⟩,
      ⟨(some 6), none, .mv (.t 1)⟩,
      ⟨(some 7), none, .call 2 (.f 65) [(.t 5), (.t 6), (.f 66)]⟩,
      ⟨(some 4), none, .mv (.t 7)⟩] [4])
  .ret)),
  [.t 4]⟩

/- slices.rotateRight[spillway/history.row] -/
def an51 : Ann := [[2], []]
def fn51 : Vs.Fn := ⟨2,
  (.rg [⟨(some 4), none, .mv (.t 0)⟩,
      ⟨(some 5), none, .mv (.t 0)⟩,
      ⟨(some 6), none, .len false (.t 5)⟩,
      ⟨(some 7), none, .mv (.t 1)⟩,
      ⟨(some 8), none, .bin .sub (.t 6) (.t 7)⟩,
      ⟨(some 9), none, .call 2 (.f 69) [(.t 4), (.t 8)]⟩] []),
  []⟩

/- math/bits.Mul64 -/
def an52 : Ann := [[0, 1], [0, 1, 6], [0, 1, 6, 7], [0, 1, 6, 7, 8], [0, 1, 6, 7, 8, 9], [0, 1, 6, 7, 8, 9, 10], [0, 1, 6, 7, 9, 11], [0, 1, 6, 7, 9, 11, 12], [0, 1, 6, 7, 9, 12, 13], [0, 1, 7, 9, 12, 13], [0, 1, 4], [4, 5]]
def fn52 : Vs.Fn := ⟨2,
  (.seq (.rg [⟨(some 4), none, .mv (.c (.int .u64 0))⟩,
      ⟨(some 5), none, .mv (.c (.int .u64 0))⟩] [0, 1])
  (.seq (.rg [⟨(some 14), none, .mv (.t 0)⟩,
      ⟨(some 15), none, .bin .and (.t 14) (.c (.int .u64 4294967295))⟩,
      ⟨(some 6), none, .mv (.t 15)⟩] [0, 1, 6])
  (.seq (.rg [⟨(some 16), none, .mv (.t 0)⟩,
      ⟨(some 17), none, .bin .shr (.t 16) (.c (.int .u64 32))⟩,
      ⟨(some 7), none, .mv (.t 17)⟩] [0, 1, 6, 7])
  (.seq (.rg [⟨(some 18), none, .mv (.t 1)⟩,
      ⟨(some 19), none, .bin .and (.t 18) (.c (.int .u64 4294967295))⟩,
      ⟨(some 8), none, .mv (.t 19)⟩] [0, 1, 6, 7, 8])
  (.seq (.rg [⟨(some 20), none, .mv (.t 1)⟩,
      ⟨(some 21), none, .bin .shr (.t 20) (.c (.int .u64 32))⟩,
      ⟨(some 9), none, .mv (.t 21)⟩] [0, 1, 6, 7, 8, 9])
  (.seq (.rg [⟨(some 22), none, .mv (.t 6)⟩,
      ⟨(some 23), none, .mv (.t 8)⟩,
      ⟨(some 24), none, .bin .mul (.t 22) (.t 23)⟩,
      ⟨(some 10), none, .mv (.t 24)⟩] [0, 1, 6, 7, 8, 9, 10])
  (.seq (.rg [⟨(some 25), none, .mv (.t 7)⟩,
      ⟨(some 26), none, .mv (.t 8)⟩,
      ⟨(some 27), none, .bin .mul (.t 25) (.t 26)⟩,
      ⟨(some 28), none, .mv (.t 10)⟩,
      ⟨(some 29), none, .bin .shr (.t 28) (.c (.int .u64 32))⟩,
      ⟨(some 30), none, .bin .add (.t 27) (.t 29)⟩,
      ⟨(some 11), none, .mv (.t 30)⟩] [0, 1, 6, 7, 9, 11])
  (.seq (.rg [⟨(some 31), none, .mv (.t 11)⟩,
      ⟨(some 32), none, .bin .and (.t 31) (.c (.int .u64 4294967295))⟩,
      ⟨(some 12), none, .mv (.t 32)⟩] [0, 1, 6, 7, 9, 11, 12])
  (.seq (.rg [⟨(some 33), none, .mv (.t 11)⟩,
      ⟨(some 34), none, .bin .shr (.t 33) (.c (.int .u64 32))⟩,
      ⟨(some 13), none, .mv (.t 34)⟩] [0, 1, 6, 7, 9, 12, 13])
  (.seq (.rg [⟨(some 35), none, .mv (.t 12)⟩,
      ⟨(some 36), none, .mv (.t 6)⟩,
      ⟨(some 37), none, .mv (.t 9)⟩,
      ⟨(some 38), none, .bin .mul (.t 36) (.t 37)⟩,
      ⟨(some 39), none, .bin .add (.t 35) (.t 38)⟩,
      ⟨(some 12), none, .mv (.t 39)⟩] [0, 1, 7, 9, 12, 13])
  (.seq (.rg [⟨(some 40), none, .mv (.t 7)⟩,
      ⟨(some 41), none, .mv (.t 9)⟩,
      ⟨(some 42), none, .bin .mul (.t 40) (.t 41)⟩,
      ⟨(some 43), none, .mv (.t 13)⟩,
      ⟨(some 44), none, .bin .add (.t 42) (.t 43)⟩,
      ⟨(some 45), none, .mv (.t 12)⟩,
      ⟨(some 46), none, .bin .shr (.t 45) (.c (.int .u64 32))⟩,
      ⟨(some 47), none, .bin .add (.t 44) (.t 46)⟩,
      ⟨(some 4), none, .mv (.t 47)⟩] [0, 1, 4])
  (.seq (.rg [⟨(some 48), none, .mv (.t 0)⟩,
      ⟨(some 49), none, .mv (.t 1)⟩,
      ⟨(some 50), none, .bin .mul (.t 48) (.t 49)⟩,
      ⟨(some 5), none, .mv (.t 50)⟩] [4, 5])
  .ret)))))))))))),
  [.t 4, .t 5]⟩

/- math/bits.Div64 -/
def an53 : Ann := [[0, 1, 2], [0, 1, 2, 20], [0, 1, 2], [0, 1, 2, 24], [0, 1, 2], [0, 1, 2, 27], [6, 7], [2], [0, 1, 2, 8], [0, 1, 2, 8], [0, 1, 2, 8, 9], [0, 1, 2, 8, 9, 10], [1, 2, 8, 9, 10, 11], [2, 8, 9, 10, 11, 12], [2, 8, 9, 10, 11, 12, 13], [2, 8, 9, 10, 11, 13, 14], [2, 8, 9, 10, 11, 13, 14, 15], [2, 8, 9, 10, 11, 13, 14, 15, 16], [2, 8, 9, 10, 11, 13, 14, 15, 16], [2, 8, 9, 10, 11, 13, 14, 15, 16, 78], [2, 8, 9, 10, 11, 13, 14, 15, 16], [2, 8, 9, 10, 11, 13, 14, 15, 16], [2, 8, 9, 10, 11, 13, 14, 15, 16, 85], [2, 8, 9, 10, 14, 15, 17], [2, 8, 9, 10, 14, 15, 17, 18], [2, 8, 9, 10, 14, 15, 16, 17, 18], [2, 8, 9, 10, 14, 15, 16, 17, 18], [2, 8, 9, 10, 14, 15, 16, 17, 18, 113], [2, 8, 9, 10, 14, 15, 16, 17, 18], [2, 8, 9, 10, 14, 15, 16, 17, 18], [2, 8, 9, 10, 14, 15, 16, 17, 18, 120], [6, 7]]
def fn53B0 : Cd :=
  (.seq (.seq (.rg [⟨(some 67), none, .mv (.t 15)⟩,
      ⟨(some 68), none, .bin .geq (.t 67) (.c (.int .u64 4294967296))⟩,
      ⟨(some 69), none, .mv (.t 68)⟩,
      ⟨(some 70), some (69, false), .mv (.t 15)⟩,
      ⟨(some 71), some (69, false), .mv (.t 10)⟩,
      ⟨(some 72), some (69, false), .bin .mul (.t 70) (.t 71)⟩,
      ⟨(some 73), some (69, false), .mv (.t 16)⟩,
      ⟨(some 74), some (69, false), .bin .mul (.c (.int .u64 4294967296)) (.t 73)⟩,
      ⟨(some 75), some (69, false), .mv (.t 13)⟩,
      ⟨(some 76), some (69, false), .bin .add (.t 74) (.t 75)⟩,
      ⟨(some 77), some (69, false), .bin .gtr (.t 72) (.t 76)⟩,
      ⟨(some 78), none, .pick (.t 69) (.c (.bool true)) (.t 77)⟩] [2, 8, 9, 10, 11, 13, 14, 15, 16, 78])
  (.cond (.t 78)
    .skip
    (.exit 0)))
  (.block 1
    (.seq (.rg [⟨(some 79), none, .mv (.t 15)⟩,
        ⟨(some 80), none, .bin .sub (.t 79) (.c (.int .u64 1))⟩,
        ⟨(some 15), none, .mv (.t 80)⟩] [2, 8, 9, 10, 11, 13, 14, 15, 16])
    (.seq (.rg [⟨(some 81), none, .mv (.t 16)⟩,
        ⟨(some 82), none, .mv (.t 9)⟩,
        ⟨(some 83), none, .bin .add (.t 81) (.t 82)⟩,
        ⟨(some 16), none, .mv (.t 83)⟩] [2, 8, 9, 10, 11, 13, 14, 15, 16])
    (.seq (.rg [⟨(some 84), none, .mv (.t 16)⟩,
        ⟨(some 85), none, .bin .geq (.t 84) (.c (.int .u64 4294967296))⟩] [2, 8, 9, 10, 11, 13, 14, 15, 16, 85])
    (.cond (.t 85)
      (.exit 0)
      .skip))))))
def fn53L0 : Cd := .loop [2, 8, 9, 10, 11, 13, 14, 15, 16] fn53B0
def fn53B1 : Cd :=
  (.seq (.seq (.rg [⟨(some 102), none, .mv (.t 18)⟩,
      ⟨(some 103), none, .bin .geq (.t 102) (.c (.int .u64 4294967296))⟩,
      ⟨(some 104), none, .mv (.t 103)⟩,
      ⟨(some 105), some (104, false), .mv (.t 18)⟩,
      ⟨(some 106), some (104, false), .mv (.t 10)⟩,
      ⟨(some 107), some (104, false), .bin .mul (.t 105) (.t 106)⟩,
      ⟨(some 108), some (104, false), .mv (.t 16)⟩,
      ⟨(some 109), some (104, false), .bin .mul (.c (.int .u64 4294967296)) (.t 108)⟩,
      ⟨(some 110), some (104, false), .mv (.t 14)⟩,
      ⟨(some 111), some (104, false), .bin .add (.t 109) (.t 110)⟩,
      ⟨(some 112), some (104, false), .bin .gtr (.t 107) (.t 111)⟩,
      ⟨(some 113), none, .pick (.t 104) (.c (.bool true)) (.t 112)⟩] [2, 8, 9, 10, 14, 15, 16, 17, 18, 113])
  (.cond (.t 113)
    .skip
    (.exit 2)))
  (.block 3
    (.seq (.rg [⟨(some 114), none, .mv (.t 18)⟩,
        ⟨(some 115), none, .bin .sub (.t 114) (.c (.int .u64 1))⟩,
        ⟨(some 18), none, .mv (.t 115)⟩] [2, 8, 9, 10, 14, 15, 16, 17, 18])
    (.seq (.rg [⟨(some 116), none, .mv (.t 16)⟩,
        ⟨(some 117), none, .mv (.t 9)⟩,
        ⟨(some 118), none, .bin .add (.t 116) (.t 117)⟩,
        ⟨(some 16), none, .mv (.t 118)⟩] [2, 8, 9, 10, 14, 15, 16, 17, 18])
    (.seq (.rg [⟨(some 119), none, .mv (.t 16)⟩,
        ⟨(some 120), none, .bin .geq (.t 119) (.c (.int .u64 4294967296))⟩] [2, 8, 9, 10, 14, 15, 16, 17, 18, 120])
    (.cond (.t 120)
      (.exit 2)
      .skip))))))
def fn53L1 : Cd := .loop [2, 8, 9, 10, 14, 15, 16, 17, 18] fn53B1
def fn53 : Vs.Fn := ⟨3,
  (.seq (.rg [⟨(some 6), none, .mv (.c (.int .u64 0))⟩,
      ⟨(some 7), none, .mv (.c (.int .u64 0))⟩] [0, 1, 2])
  (.seq (.seq (.rg [⟨(some 19), none, .mv (.t 2)⟩,
      ⟨(some 20), none, .bin .eql (.t 19) (.c (.int .u64 0))⟩] [0, 1, 2, 20])
  (.cond (.t 20)
    .bad
    .skip))
  (.seq (.seq (.rg [⟨(some 22), none, .mv (.t 2)⟩,
      ⟨(some 23), none, .mv (.t 0)⟩,
      ⟨(some 24), none, .bin .leq (.t 22) (.t 23)⟩] [0, 1, 2, 24])
  (.cond (.t 24)
    .bad
    .skip))
  (.seq (.seq (.rg [⟨(some 26), none, .mv (.t 0)⟩,
      ⟨(some 27), none, .bin .eql (.t 26) (.c (.int .u64 0))⟩] [0, 1, 2, 27])
  (.cond (.t 27)
    (.seq (.rg [⟨(some 28), none, .mv (.t 1)⟩,
        ⟨(some 29), none, .mv (.t 2)⟩,
        ⟨(some 30), none, .bin .quo (.t 28) (.t 29)⟩,
        ⟨(some 31), none, .mv (.t 1)⟩,
        ⟨(some 32), none, .mv (.t 2)⟩,
        ⟨(some 33), none, .bin .rem (.t 31) (.t 32)⟩,
        ⟨(some 6), none, .mv (.t 30)⟩,
        ⟨(some 7), none, .mv (.t 33)⟩] [6, 7])
    .ret)
    .skip))
  (.seq (.rg [⟨(some 34), none, .mv (.t 2)⟩,
      ⟨(some 35), none, .call 2 (.f 70) [(.t 34)]⟩,
      ⟨(some 36), none, .cvi .u64 (.t 35)⟩,
      ⟨(some 8), none, .mv (.t 36)⟩] [0, 1, 2, 8])
  (.seq (.rg [⟨(some 37), none, .mv (.t 2)⟩,
      ⟨(some 38), none, .mv (.t 8)⟩,
      ⟨(some 39), none, .bin .shl (.t 37) (.t 38)⟩,
      ⟨(some 2), none, .mv (.t 39)⟩] [0, 1, 2, 8])
  (.seq (.rg [⟨(some 40), none, .mv (.t 2)⟩,
      ⟨(some 41), none, .bin .shr (.t 40) (.c (.int .u64 32))⟩,
      ⟨(some 9), none, .mv (.t 41)⟩] [0, 1, 2, 8, 9])
  (.seq (.rg [⟨(some 42), none, .mv (.t 2)⟩,
      ⟨(some 43), none, .bin .and (.t 42) (.c (.int .u64 4294967295))⟩,
      ⟨(some 10), none, .mv (.t 43)⟩] [0, 1, 2, 8, 9, 10])
  (.seq (.rg [⟨(some 44), none, .mv (.t 0)⟩,
      ⟨(some 45), none, .mv (.t 8)⟩,
      ⟨(some 46), none, .bin .shl (.t 44) (.t 45)⟩,
      ⟨(some 47), none, .mv (.t 1)⟩,
      ⟨(some 48), none, .mv (.t 8)⟩,
      ⟨(some 49), none, .bin .sub (.c (.int .u64 64)) (.t 48)⟩,
      ⟨(some 50), none, .bin .shr (.t 47) (.t 49)⟩,
      ⟨(some 51), none, .bin .or (.t 46) (.t 50)⟩,
      ⟨(some 11), none, .mv (.t 51)⟩] [1, 2, 8, 9, 10, 11])
  (.seq (.rg [⟨(some 52), none, .mv (.t 1)⟩,
      ⟨(some 53), none, .mv (.t 8)⟩,
      ⟨(some 54), none, .bin .shl (.t 52) (.t 53)⟩,
      ⟨(some 12), none, .mv (.t 54)⟩] [2, 8, 9, 10, 11, 12])
  (.seq (.rg [⟨(some 55), none, .mv (.t 12)⟩,
      ⟨(some 56), none, .bin .shr (.t 55) (.c (.int .u64 32))⟩,
      ⟨(some 13), none, .mv (.t 56)⟩] [2, 8, 9, 10, 11, 12, 13])
  (.seq (.rg [⟨(some 57), none, .mv (.t 12)⟩,
      ⟨(some 58), none, .bin .and (.t 57) (.c (.int .u64 4294967295))⟩,
      ⟨(some 14), none, .mv (.t 58)⟩] [2, 8, 9, 10, 11, 13, 14])
  (.seq (.rg [⟨(some 59), none, .mv (.t 11)⟩,
      ⟨(some 60), none, .mv (.t 9)⟩,
      ⟨(some 61), none, .bin .quo (.t 59) (.t 60)⟩,
      ⟨(some 15), none, .mv (.t 61)⟩] [2, 8, 9, 10, 11, 13, 14, 15])
  (.seq (.rg [⟨(some 62), none, .mv (.t 11)⟩,
      ⟨(some 63), none, .mv (.t 15)⟩,
      ⟨(some 64), none, .mv (.t 9)⟩,
      ⟨(some 65), none, .bin .mul (.t 63) (.t 64)⟩,
      ⟨(some 66), none, .bin .sub (.t 62) (.t 65)⟩,
      ⟨(some 16), none, .mv (.t 66)⟩] [2, 8, 9, 10, 11, 13, 14, 15, 16])
  (.seq (.block 0
    fn53L0)
  (.seq (.rg [⟨(some 86), none, .mv (.t 11)⟩,
      ⟨(some 87), none, .bin .mul (.t 86) (.c (.int .u64 4294967296))⟩,
      ⟨(some 88), none, .mv (.t 13)⟩,
      ⟨(some 89), none, .bin .add (.t 87) (.t 88)⟩,
      ⟨(some 90), none, .mv (.t 15)⟩,
      ⟨(some 91), none, .mv (.t 2)⟩,
      ⟨(some 92), none, .bin .mul (.t 90) (.t 91)⟩,
      ⟨(some 93), none, .bin .sub (.t 89) (.t 92)⟩,
      ⟨(some 17), none, .mv (.t 93)⟩] [2, 8, 9, 10, 14, 15, 17])
  (.seq (.rg [⟨(some 94), none, .mv (.t 17)⟩,
      ⟨(some 95), none, .mv (.t 9)⟩,
      ⟨(some 96), none, .bin .quo (.t 94) (.t 95)⟩,
      ⟨(some 18), none, .mv (.t 96)⟩] [2, 8, 9, 10, 14, 15, 17, 18])
  (.seq (.rg [⟨(some 97), none, .mv (.t 17)⟩,
      ⟨(some 98), none, .mv (.t 18)⟩,
      ⟨(some 99), none, .mv (.t 9)⟩,
      ⟨(some 100), none, .bin .mul (.t 98) (.t 99)⟩,
      ⟨(some 101), none, .bin .sub (.t 97) (.t 100)⟩,
      ⟨(some 16), none, .mv (.t 101)⟩] [2, 8, 9, 10, 14, 15, 16, 17, 18])
  (.seq (.block 2
    fn53L1)
  (.seq (.rg [⟨(some 121), none, .mv (.t 15)⟩,
      ⟨(some 122), none, .bin .mul (.t 121) (.c (.int .u64 4294967296))⟩,
      ⟨(some 123), none, .mv (.t 18)⟩,
      ⟨(some 124), none, .bin .add (.t 122) (.t 123)⟩,
      ⟨(some 125), none, .mv (.t 17)⟩,
      ⟨(some 126), none, .bin .mul (.t 125) (.c (.int .u64 4294967296))⟩,
      ⟨(some 127), none, .mv (.t 14)⟩,
      ⟨(some 128), none, .bin .add (.t 126) (.t 127)⟩,
      ⟨(some 129), none, .mv (.t 18)⟩,
      ⟨(some 130), none, .mv (.t 2)⟩,
      ⟨(some 131), none, .bin .mul (.t 129) (.t 130)⟩,
      ⟨(some 132), none, .bin .sub (.t 128) (.t 131)⟩,
      ⟨(some 133), none, .mv (.t 8)⟩,
      ⟨(some 134), none, .bin .shr (.t 132) (.t 133)⟩,
      ⟨(some 6), none, .mv (.t 124)⟩,
      ⟨(some 7), none, .mv (.t 134)⟩] [6, 7])
  .ret)))))))))))))))))))),
  [.t 6, .t 7]⟩

/- slices.BinarySearchFunc[spillway/history.samples,spillway/api.Sample,int] -/
def an54 : Ann := [[0, 1, 2], [0, 1, 2, 8], [0, 1, 2, 8, 9, 10], [0, 1, 2, 8, 9, 10], [0, 1, 2, 8, 9, 10, 17], [0, 1, 2, 8, 9, 10, 11], [2], [0, 1, 2, 8, 9, 10, 11, 31], [0, 1, 2, 8, 9, 10], [0, 1, 2, 8, 9, 10], [2], [6, 7]]
def fn54B0 : Cd :=
  (.seq (.seq (.rg [⟨(some 15), none, .mv (.t 9)⟩,
      ⟨(some 16), none, .mv (.t 10)⟩,
      ⟨(some 17), none, .bin .lss (.t 15) (.t 16)⟩] [0, 1, 2, 8, 9, 10, 17])
  (.cond (.t 17)
    .skip
    (.exit 0)))
  (.block 1
    (.seq (.rg [⟨(some 18), none, .mv (.t 9)⟩,
        ⟨(some 19), none, .mv (.t 10)⟩,
        ⟨(some 20), none, .bin .add (.t 18) (.t 19)⟩,
        ⟨(some 21), none, .cvi .u64 (.t 20)⟩,
        ⟨(some 22), none, .bin .shr (.t 21) (.c (.int .u64 1))⟩,
        ⟨(some 23), none, .cvi .i64 (.t 22)⟩,
        ⟨(some 11), none, .mv (.t 23)⟩] [0, 1, 2, 8, 9, 10, 11])
    (.seq (.rg [⟨(some 24), none, .mv (.t 2)⟩,
        ⟨(some 25), none, .mv (.t 0)⟩,
        ⟨(some 26), none, .mv (.t 11)⟩,
        ⟨(some 27), none, .iad 3 (.t 25) (.t 26)⟩,
        ⟨(some 28), none, .load true 3 (.t 27) false⟩,
        ⟨(some 29), none, .mv (.t 1)⟩,
        ⟨(some 30), none, .call 2 (.t 24) [(.t 28), (.t 29)]⟩,
        ⟨(some 31), none, .bin .lss (.t 30) (.c (.int .i64 0))⟩] [0, 1, 2, 8, 9, 10, 11, 31])
    (.cond (.t 31)
      (.rg [⟨(some 32), none, .mv (.t 11)⟩,
          ⟨(some 33), none, .bin .add (.t 32) (.c (.int .i64 1))⟩,
          ⟨(some 9), none, .mv (.t 33)⟩] [0, 1, 2, 8, 9, 10])
      (.rg [⟨(some 34), none, .mv (.t 11)⟩,
          ⟨(some 10), none, .mv (.t 34)⟩] [0, 1, 2, 8, 9, 10]))))))
def fn54L0 : Cd := .loop [0, 1, 2, 8, 9, 10] fn54B0
def fn54 : Vs.Fn := ⟨3,
  (.seq (.rg [⟨(some 6), none, .mv (.c (.int .i64 0))⟩,
      ⟨(some 7), none, .mv (.c (.bool false))⟩] [0, 1, 2])
  (.seq (.rg [⟨(some 12), none, .mv (.t 0)⟩,
      ⟨(some 13), none, .len false (.t 12)⟩,
      ⟨(some 8), none, .mv (.t 13)⟩] [0, 1, 2, 8])
  (.seq (.rg [⟨(some 14), none, .mv (.t 8)⟩,
      ⟨(some 9), none, .mv (.c (.int .i64 0))⟩,
      ⟨(some 10), none, .mv (.t 14)⟩] [0, 1, 2, 8, 9, 10])
  (.seq (.block 0
    fn54L0)
  (.seq (.rg [⟨(some 35), none, .mv (.t 9)⟩,
      ⟨(some 36), none, .mv (.t 9)⟩,
      ⟨(some 37), none, .mv (.t 8)⟩,
      ⟨(some 38), none, .bin .lss (.t 36) (.t 37)⟩,
      ⟨(some 39), none, .mv (.t 38)⟩,
      ⟨(some 40), some (39, true), .mv (.t 2)⟩,
      ⟨(some 41), some (39, true), .mv (.t 0)⟩,
      ⟨(some 42), some (39, true), .mv (.t 9)⟩,
      ⟨(some 43), some (39, true), .iad 3 (.t 41) (.t 42)⟩,
      ⟨(some 44), some (39, true), .load true 3 (.t 43) false⟩,
      ⟨(some 45), some (39, true), .mv (.t 1)⟩,
      ⟨(some 46), some (39, true), .call 2 (.t 40) [(.t 44), (.t 45)]⟩,
      ⟨(some 47), some (39, true), .bin .eql (.t 46) (.c (.int .i64 0))⟩,
      ⟨(some 48), none, .pick (.t 39) (.t 47) (.c (.bool false))⟩,
      ⟨(some 6), none, .mv (.t 35)⟩,
      ⟨(some 7), none, .mv (.t 48)⟩] [6, 7])
  .ret))))),
  [.t 6, .t 7]⟩

/- (spillway/history.samples).upto$1 -/
def an55 : Ann := [[1, 2], [8], [4], [4]]
def fn55 : Vs.Fn := ⟨2,
  (.seq (.rg [⟨(some 2), none, .box 3 (.t 0)⟩,
      ⟨(some 4), none, .mv (.c (.int .i64 0))⟩] [1, 2])
  (.seq (.seq (.rg [⟨(some 5), none, .fad 0 (.t 2)⟩,
      ⟨(some 6), none, .load false 1 (.t 5) false⟩,
      ⟨(some 7), none, .mv (.t 1)⟩,
      ⟨(some 8), none, .bin .leq (.t 6) (.t 7)⟩] [8])
  (.cond (.t 8)
    (.seq (.rg [⟨(some 4), none, .mv (.c (.int .i64 (-1)))⟩] [4])
    .ret)
    .skip))
  (.seq (.rg [⟨(some 4), none, .mv (.c (.int .i64 1))⟩] [4])
  .ret))),
  [.t 4]⟩

/- spillway/pattern.One -/
def an62 : Ann := [[1, 2], [1, 2, 6], [1, 2, 6, 7], [4], [1, 2, 6, 13], [4], [1, 2, 6, 19], [2], [4], [1, 2, 25], [2], [4], [4]]
def fn62 : Vs.Fn := ⟨2,
  (.seq (.rg [⟨(some 2), none, .box 3 (.t 0)⟩,
      ⟨(some 4), none, .mv (.c (.bool false))⟩] [1, 2])
  (.seq (.seq (.rg [⟨(some 5), none, .fad 1 (.t 2)⟩,
      ⟨(some 6), none, .load false 1 (.t 5) false⟩] [1, 2, 6])
  (.block 0
    (.seq (.rg [⟨(some 8), none, .bin .eql (.t 6) (.c (.int .i64 1))⟩,
        ⟨(some 7), none, .mv (.t 8)⟩] [1, 2, 6, 7])
    (.cond (.t 7)
      (.seq (.rg [⟨(some 9), none, .mv (.t 1)⟩,
          ⟨(some 10), none, .fad 2 (.t 2)⟩,
          ⟨(some 11), none, .load false 1 (.t 10) false⟩,
          ⟨(some 12), none, .bin .eql (.t 9) (.t 11)⟩,
          ⟨(some 4), none, .mv (.t 12)⟩] [4])
      .ret)
      (.seq (.rg [⟨(some 14), none, .bin .eql (.t 6) (.c (.int .i64 2))⟩,
          ⟨(some 13), none, .mv (.t 14)⟩] [1, 2, 6, 13])
      (.cond (.t 13)
        (.seq (.rg [⟨(some 15), none, .mv (.t 1)⟩,
            ⟨(some 16), none, .fad 2 (.t 2)⟩,
            ⟨(some 17), none, .load false 1 (.t 16) false⟩,
            ⟨(some 18), none, .bin .neq (.t 15) (.t 17)⟩,
            ⟨(some 4), none, .mv (.t 18)⟩] [4])
        .ret)
        (.seq (.rg [⟨(some 20), none, .bin .eql (.t 6) (.c (.int .i64 3))⟩,
            ⟨(some 19), none, .mv (.t 20)⟩] [1, 2, 6, 19])
        (.cond (.t 19)
          (.seq (.rg [⟨(some 21), none, .mv (.t 1)⟩,
              ⟨(some 22), none, .fad 2 (.t 2)⟩,
              ⟨(some 23), none, .load false 1 (.t 22) false⟩,
              ⟨(some 24), none, .call 2 (.f 73) [(.t 21), (.t 23)]⟩,
              ⟨(some 4), none, .mv (.t 24)⟩] [4])
          .ret)
          (.seq (.rg [⟨(some 26), none, .bin .eql (.t 6) (.c (.int .i64 4))⟩,
              ⟨(some 25), none, .mv (.t 26)⟩] [1, 2, 25])
          (.cond (.t 25)
            (.seq (.rg [⟨(some 27), none, .fad 2 (.t 2)⟩,
                ⟨(some 28), none, .load false 1 (.t 27) false⟩,
                ⟨(some 29), none, .mv (.t 1)⟩,
                ⟨(some 30), none, .call 2 (.f 74) [(.t 28), (.t 29)]⟩,
                ⟨(some 4), none, .mv (.t 30)⟩] [4])
            .ret)
            .skip))))))))))
  (.seq (.rg [⟨(some 4), none, .mv (.c (.bool false))⟩] [4])
  .ret))),
  [.t 4]⟩

/- spillway/label.Get -/
def an63 : Ann := [[0, 1], [1, 7, 8, 9], [1, 7, 8, 9], [1, 7, 8, 9, 10], [1, 6, 7, 8, 9], [1, 6, 7, 8, 9, 16], [4], [1, 7, 8, 9], [4]]
def fn63B0 : Cd :=
  (.seq (.rg [⟨(some 10), none, .bin .lss (.t 9) (.t 8)⟩] [1, 7, 8, 9, 10])
  (.seq (.cond (.t 10)
    .skip
    (.exit 0))
  (.seq (.block 1
    (.seq (.rg [⟨(some 11), none, .iad 2 (.t 7) (.t 9)⟩,
        ⟨(some 12), none, .load true 2 (.t 11) false⟩,
        ⟨(some 6), none, .alloc [(.str ⟨#[]⟩), (.str ⟨#[]⟩)]⟩,
        ⟨none, none, .store 2 (.t 6) (.t 12)⟩] [1, 6, 7, 8, 9])
    (.seq (.rg [⟨(some 13), none, .fad 0 (.t 6)⟩,
        ⟨(some 14), none, .load false 1 (.t 13) false⟩,
        ⟨(some 15), none, .mv (.t 1)⟩,
        ⟨(some 16), none, .bin .eql (.t 14) (.t 15)⟩] [1, 6, 7, 8, 9, 16])
    (.cond (.t 16)
      (.seq (.rg [⟨(some 17), none, .fad 1 (.t 6)⟩,
          ⟨(some 18), none, .load false 1 (.t 17) false⟩,
          ⟨(some 4), none, .mv (.t 18)⟩] [4])
      .ret)
      .skip))))
  (.rg [⟨(some 19), none, .bin .add (.t 9) (.c (.int .i64 1))⟩,
      ⟨(some 9), none, .mv (.t 19)⟩] [1, 7, 8, 9]))))
def fn63L0 : Cd := .loop [1, 7, 8, 9] fn63B0
def fn63 : Vs.Fn := ⟨2,
  (.seq (.rg [⟨(some 4), none, .mv (.c (.string ⟨#[]⟩))⟩] [0, 1])
  (.seq (.seq (.rg [⟨(some 7), none, .mv (.t 0)⟩,
      ⟨(some 8), none, .len false (.t 7)⟩,
      ⟨(some 9), none, .mv (.c (.int .i64 0))⟩] [1, 7, 8, 9])
  (.block 0
    fn63L0))
  (.seq (.rg [⟨(some 4), none, .mv (.c (.string ⟨#[]⟩))⟩] [4])
  .ret))),
  [.t 4]⟩

/- strings.IndexByte -/
def an64 : Ann := [[0, 1], [2], [4]]
def fn64 : Vs.Fn := ⟨2,
  (.seq (.rg [⟨(some 4), none, .mv (.c (.int .i64 0))⟩] [0, 1])
  (.seq (.rg [⟨(some 5), none, .mv (.t 0)⟩,
      ⟨(some 6), none, .mv (.t 1)⟩,
      ⟨(some 7), none, .call 2 (.f 75) [(.t 5), (.t 6)]⟩,
      ⟨(some 4), none, .mv (.t 7)⟩] [4])
  .ret)),
  [.t 4]⟩

/- slices.CompareFunc[[]spillway/api.Pair,[]spillway/api.Pair,spillway/api.Pair,spillway/api.Pair] -/
def an65 : Ann := [[0, 1, 2], [0, 1, 2, 11, 12, 13], [0, 1, 2, 11, 12, 13], [0, 1, 2, 11, 12, 13, 14], [0, 1, 2, 7, 8, 11, 12, 13], [0, 1, 2, 7, 8, 11, 12, 13, 21], [6], [0, 1, 2, 8, 9, 11, 12, 13], [2], [0, 1, 2, 10, 11, 12, 13], [0, 1, 2, 10, 11, 12, 13, 31], [6], [0, 1, 2, 11, 12, 13], [38], [6], [6]]
def fn65B0 : Cd :=
  (.seq (.rg [⟨(some 14), none, .bin .lss (.t 13) (.t 12)⟩] [0, 1, 2, 11, 12, 13, 14])
  (.seq (.cond (.t 14)
    .skip
    (.exit 0))
  (.seq (.block 1
    (.seq (.rg [⟨(some 15), none, .mv (.t 13)⟩,
        ⟨(some 16), none, .iad 2 (.t 11) (.t 13)⟩,
        ⟨(some 17), none, .load true 2 (.t 16) false⟩,
        ⟨(some 8), none, .alloc [(.str ⟨#[]⟩), (.str ⟨#[]⟩)]⟩,
        ⟨(some 7), none, .mv (.t 15)⟩,
        ⟨none, none, .store 2 (.t 8) (.t 17)⟩] [0, 1, 2, 7, 8, 11, 12, 13])
    (.seq (.seq (.rg [⟨(some 18), none, .mv (.t 7)⟩,
        ⟨(some 19), none, .mv (.t 1)⟩,
        ⟨(some 20), none, .len false (.t 19)⟩,
        ⟨(some 21), none, .bin .geq (.t 18) (.t 20)⟩] [0, 1, 2, 7, 8, 11, 12, 13, 21])
    (.cond (.t 21)
      (.seq (.rg [⟨(some 6), none, .mv (.c (.int .i64 1))⟩] [6])
      .ret)
      .skip))
    (.seq (.rg [⟨(some 22), none, .mv (.t 1)⟩,
        ⟨(some 23), none, .mv (.t 7)⟩,
        ⟨(some 24), none, .iad 2 (.t 22) (.t 23)⟩,
        ⟨(some 25), none, .load true 2 (.t 24) false⟩,
        ⟨(some 9), none, .alloc [(.str ⟨#[]⟩), (.str ⟨#[]⟩)]⟩,
        ⟨none, none, .store 2 (.t 9) (.t 25)⟩] [0, 1, 2, 8, 9, 11, 12, 13])
    (.seq (.rg [⟨(some 26), none, .mv (.t 2)⟩,
        ⟨(some 27), none, .load true 2 (.t 8) false⟩,
        ⟨(some 28), none, .load true 2 (.t 9) false⟩,
        ⟨(some 29), none, .call 2 (.t 26) [(.t 27), (.t 28)]⟩,
        ⟨(some 10), none, .mv (.t 29)⟩] [0, 1, 2, 10, 11, 12, 13])
    (.seq (.rg [⟨(some 30), none, .mv (.t 10)⟩,
        ⟨(some 31), none, .bin .neq (.t 30) (.c (.int .i64 0))⟩] [0, 1, 2, 10, 11, 12, 13, 31])
    (.cond (.t 31)
      (.seq (.rg [⟨(some 32), none, .mv (.t 10)⟩,
          ⟨(some 6), none, .mv (.t 32)⟩] [6])
      .ret)
      .skip)))))))
  (.rg [⟨(some 33), none, .bin .add (.t 13) (.c (.int .i64 1))⟩,
      ⟨(some 13), none, .mv (.t 33)⟩] [0, 1, 2, 11, 12, 13]))))
def fn65L0 : Cd := .loop [0, 1, 2, 11, 12, 13] fn65B0
def fn65 : Vs.Fn := ⟨3,
  (.seq (.rg [⟨(some 6), none, .mv (.c (.int .i64 0))⟩] [0, 1, 2])
  (.seq (.seq (.rg [⟨(some 11), none, .mv (.t 0)⟩,
      ⟨(some 12), none, .len false (.t 11)⟩,
      ⟨(some 13), none, .mv (.c (.int .i64 0))⟩] [0, 1, 2, 11, 12, 13])
  (.block 0
    fn65L0))
  (.seq (.seq (.rg [⟨(some 34), none, .mv (.t 0)⟩,
      ⟨(some 35), none, .len false (.t 34)⟩,
      ⟨(some 36), none, .mv (.t 1)⟩,
      ⟨(some 37), none, .len false (.t 36)⟩,
      ⟨(some 38), none, .bin .lss (.t 35) (.t 37)⟩] [38])
  (.cond (.t 38)
    (.seq (.rg [⟨(some 6), none, .mv (.c (.int .i64 (-1)))⟩] [6])
    .ret)
    .skip))
  (.seq (.rg [⟨(some 6), none, .mv (.c (.int .i64 0))⟩] [6])
  .ret)))),
  [.t 6]⟩

/- spillway/label.Cmp$1 -/
def an66 : Ann := [[2, 3], [2], [2], [2], [4]]
def fn66 : Vs.Fn := ⟨2,
  (.seq (.rg [⟨(some 2), none, .box 2 (.t 0)⟩,
      ⟨(some 3), none, .box 2 (.t 1)⟩,
      ⟨(some 4), none, .mv (.c (.int .i64 0))⟩] [2, 3])
  (.seq (.rg [⟨(some 5), none, .fad 0 (.t 2)⟩,
      ⟨(some 6), none, .load false 1 (.t 5) false⟩,
      ⟨(some 7), none, .fad 0 (.t 3)⟩,
      ⟨(some 8), none, .load false 1 (.t 7) false⟩,
      ⟨(some 9), none, .call 2 (.f 68) [(.t 6), (.t 8)]⟩,
      ⟨(some 10), none, .fad 1 (.t 2)⟩,
      ⟨(some 11), none, .load false 1 (.t 10) false⟩,
      ⟨(some 12), none, .fad 1 (.t 3)⟩,
      ⟨(some 13), none, .load false 1 (.t 12) false⟩,
      ⟨(some 14), none, .call 2 (.f 68) [(.t 11), (.t 13)]⟩,
      ⟨(some 15), none, .bslice 2 1 [(.int .i64 0)] [(0, (.t 9)), (1, (.t 14))]⟩,
      ⟨(some 16), none, .call 2 (.f 67) [(.t 15)]⟩,
      ⟨(some 4), none, .mv (.t 16)⟩] [4])
  .ret)),
  [.t 4]⟩

/- cmp.Or[int] -/
def an67 : Ann := [[0], [0, 3], [3, 6, 7, 8], [3, 6, 7, 8], [3, 6, 7, 8, 9], [3, 5, 6, 7, 8], [3, 5, 6, 7, 8, 14], [2], [3, 6, 7, 8], [2]]
def fn67B0 : Cd :=
  (.seq (.rg [⟨(some 9), none, .bin .lss (.t 8) (.t 7)⟩] [3, 6, 7, 8, 9])
  (.seq (.cond (.t 9)
    .skip
    (.exit 0))
  (.seq (.block 1
    (.seq (.rg [⟨(some 10), none, .iad 1 (.t 6) (.t 8)⟩,
        ⟨(some 11), none, .load false 1 (.t 10) false⟩,
        ⟨(some 5), none, .mv (.t 11)⟩] [3, 5, 6, 7, 8])
    (.seq (.rg [⟨(some 12), none, .mv (.t 5)⟩,
        ⟨(some 13), none, .mv (.t 3)⟩,
        ⟨(some 14), none, .bin .neq (.t 12) (.t 13)⟩] [3, 5, 6, 7, 8, 14])
    (.cond (.t 14)
      (.seq (.rg [⟨(some 15), none, .mv (.t 5)⟩,
          ⟨(some 2), none, .mv (.t 15)⟩] [2])
      .ret)
      .skip))))
  (.rg [⟨(some 16), none, .bin .add (.t 8) (.c (.int .i64 1))⟩,
      ⟨(some 8), none, .mv (.t 16)⟩] [3, 6, 7, 8]))))
def fn67L0 : Cd := .loop [3, 6, 7, 8] fn67B0
def fn67 : Vs.Fn := ⟨1,
  (.seq (.rg [⟨(some 2), none, .mv (.c (.int .i64 0))⟩] [0])
  (.seq (.rg [⟨(some 3), none, .mv (.c (.int .i64 0))⟩] [0, 3])
  (.seq (.seq (.rg [⟨(some 6), none, .mv (.t 0)⟩,
      ⟨(some 7), none, .len false (.t 6)⟩,
      ⟨(some 8), none, .mv (.c (.int .i64 0))⟩] [3, 6, 7, 8])
  (.block 0
    fn67L0))
  (.seq (.rg [⟨(some 17), none, .mv (.t 3)⟩,
      ⟨(some 2), none, .mv (.t 17)⟩] [2])
  .ret)))),
  [.t 2]⟩

/- strings.Compare -/
def an68 : Ann := [[0, 1], [2], [4]]
def fn68 : Vs.Fn := ⟨2,
  (.seq (.rg [⟨(some 4), none, .mv (.c (.int .i64 0))⟩] [0, 1])
  (.seq (.rg [⟨(some 5), none, .mv (.t 0)⟩,
      ⟨(some 6), none, .mv (.t 1)⟩,
      ⟨(some 7), none, .call 2 (.f 76) [(.t 5), (.t 6)]⟩,
      ⟨(some 4), none, .mv (.t 7)⟩] [4])
  .ret)),
  [.t 4]⟩

/- slices.rotateLeft[spillway/history.row] -/
def an69 : Ann := [[2], [0, 1], [2], [0], [2], []]
def fn69 : Vs.Fn := ⟨2,
  (.seq (.rg [⟨(some 4), none, .mv (.t 0)⟩,
      ⟨(some 5), none, .mv (.t 1)⟩,
      ⟨(some 6), none, .slsl 2 (.t 4) none (some (.t 5)) none⟩,
      ⟨(some 7), none, .call 2 (.f 77) [(.t 6)]⟩] [0, 1])
  (.seq (.rg [⟨(some 8), none, .mv (.t 0)⟩,
      ⟨(some 9), none, .mv (.t 1)⟩,
      ⟨(some 10), none, .slsl 2 (.t 8) (some (.t 9)) none none⟩,
      ⟨(some 11), none, .call 2 (.f 77) [(.t 10)]⟩] [0])
  (.rg [⟨(some 12), none, .mv (.t 0)⟩,
      ⟨(some 13), none, .call 2 (.f 77) [(.t 12)]⟩] []))),
  []⟩

/- math/bits.LeadingZeros64 -/
def an70 : Ann := [[0], [2], [2]]
def fn70 : Vs.Fn := ⟨1,
  (.seq (.rg [⟨(some 2), none, .mv (.c (.int .i64 0))⟩] [0])
  (.seq (.rg [⟨(some 3), none, .mv (.t 0)⟩,
      ⟨(some 4), none, .call 2 (.f 78) [(.t 3)]⟩,
      ⟨(some 5), none, .bin .sub (.c (.int .i64 64)) (.t 4)⟩,
      ⟨(some 2), none, .mv (.t 5)⟩] [2])
  .ret)),
  [.t 2]⟩

/- strings.HasPrefix -/
def an73 : Ann := [[0, 1], [2], [4]]
def fn73 : Vs.Fn := ⟨2,
  (.seq (.rg [⟨(some 4), none, .mv (.c (.bool false))⟩] [0, 1])
  (.seq (.rg [⟨(some 5), none, .mv (.t 0)⟩,
      ⟨(some 6), none, .mv (.t 1)⟩,
      ⟨(some 7), none, .call 2 (.f 80) [(.t 5), (.t 6)]⟩,
      ⟨(some 4), none, .mv (.t 7)⟩] [4])
  .ret)),
  [.t 4]⟩

/- spillway/pattern.Glob -/
def an74 : Ann := [[0, 1], [0, 1, 5, 6, 7, 8], [0, 1, 5, 6, 7, 8], [0, 1, 5, 6, 7, 8, 12], [0, 1, 5, 6, 7, 8, 13], [0, 1, 5, 6, 7, 8], [0, 1, 5, 6, 7, 8], [0, 1, 5, 6, 7, 8, 28], [0, 1, 5, 6, 7, 8], [0, 1, 7, 8, 52], [0, 1, 7, 8], [0, 1, 5, 6, 7, 8], [4], [2], [4]]
def fn74B0 : Cd :=
  (.seq (.seq (.rg [⟨(some 9), none, .mv (.t 6)⟩,
      ⟨(some 10), none, .mv (.t 1)⟩,
      ⟨(some 11), none, .len true (.t 10)⟩,
      ⟨(some 12), none, .bin .lss (.t 9) (.t 11)⟩] [0, 1, 5, 6, 7, 8, 12])
  (.cond (.t 12)
    .skip
    (.exit 0)))
  (.block 1
    (.block 2
      (.seq (.rg [⟨(some 14), none, .mv (.t 5)⟩,
          ⟨(some 15), none, .mv (.t 0)⟩,
          ⟨(some 16), none, .len true (.t 15)⟩,
          ⟨(some 17), none, .bin .lss (.t 14) (.t 16)⟩,
          ⟨(some 18), none, .mv (.t 17)⟩,
          ⟨(some 19), some (18, true), .mv (.t 0)⟩,
          ⟨(some 20), some (18, true), .mv (.t 5)⟩,
          ⟨(some 21), some (18, true), .ist (.t 19) (.t 20)⟩,
          ⟨(some 22), some (18, true), .bin .eql (.t 21) (.c (.int .u8 42))⟩,
          ⟨(some 23), none, .pick (.t 18) (.t 22) (.c (.bool false))⟩,
          ⟨(some 13), none, .mv (.t 23)⟩] [0, 1, 5, 6, 7, 8, 13])
      (.cond (.t 13)
        (.seq (.rg [⟨(some 24), none, .mv (.t 5)⟩,
            ⟨(some 25), none, .mv (.t 6)⟩,
            ⟨(some 7), none, .mv (.t 24)⟩,
            ⟨(some 8), none, .mv (.t 25)⟩] [0, 1, 5, 6, 7, 8])
        (.rg [⟨(some 26), none, .mv (.t 5)⟩,
            ⟨(some 27), none, .bin .add (.t 26) (.c (.int .i64 1))⟩,
            ⟨(some 5), none, .mv (.t 27)⟩] [0, 1, 5, 6, 7, 8]))
        (.seq (.rg [⟨(some 29), none, .mv (.t 5)⟩,
            ⟨(some 30), none, .mv (.t 0)⟩,
            ⟨(some 31), none, .len true (.t 30)⟩,
            ⟨(some 32), none, .bin .lss (.t 29) (.t 31)⟩,
            ⟨(some 33), none, .mv (.t 32)⟩,
            ⟨(some 34), some (33, true), .mv (.t 0)⟩,
            ⟨(some 35), some (33, true), .mv (.t 5)⟩,
            ⟨(some 36), some (33, true), .ist (.t 34) (.t 35)⟩,
            ⟨(some 37), some (33, true), .bin .eql (.t 36) (.c (.int .u8 63))⟩,
            ⟨(some 38), some (33, true), .mv (.t 37)⟩,
            ⟨(some 39), some (38, false), .mv (.t 0)⟩,
            ⟨(some 40), some (38, false), .mv (.t 5)⟩,
            ⟨(some 41), some (38, false), .ist (.t 39) (.t 40)⟩,
            ⟨(some 42), some (38, false), .mv (.t 1)⟩,
            ⟨(some 43), some (38, false), .mv (.t 6)⟩,
            ⟨(some 44), some (38, false), .ist (.t 42) (.t 43)⟩,
            ⟨(some 45), some (38, false), .bin .eql (.t 41) (.t 44)⟩,
            ⟨(some 46), some (33, true), .pick (.t 38) (.c (.bool true)) (.t 45)⟩,
            ⟨(some 47), none, .pick (.t 33) (.t 46) (.c (.bool false))⟩,
            ⟨(some 28), none, .mv (.t 47)⟩] [0, 1, 5, 6, 7, 8, 28])
        (.cond (.t 28)
          (.rg [⟨(some 48), none, .mv (.t 5)⟩,
              ⟨(some 49), none, .bin .add (.t 48) (.c (.int .i64 1))⟩,
              ⟨(some 50), none, .mv (.t 6)⟩,
              ⟨(some 51), none, .bin .add (.t 50) (.c (.int .i64 1))⟩,
              ⟨(some 5), none, .mv (.t 49)⟩,
              ⟨(some 6), none, .mv (.t 51)⟩] [0, 1, 5, 6, 7, 8])
          (.seq (.rg [⟨(some 53), none, .mv (.t 7)⟩,
              ⟨(some 54), none, .bin .geq (.t 53) (.c (.int .i64 0))⟩,
              ⟨(some 52), none, .mv (.t 54)⟩] [0, 1, 7, 8, 52])
          (.cond (.t 52)
            (.seq (.rg [⟨(some 55), none, .mv (.t 8)⟩,
                ⟨(some 56), none, .bin .add (.t 55) (.c (.int .i64 1))⟩,
                ⟨(some 8), none, .mv (.t 56)⟩] [0, 1, 7, 8])
            (.rg [⟨(some 57), none, .mv (.t 7)⟩,
                ⟨(some 58), none, .bin .add (.t 57) (.c (.int .i64 1))⟩,
                ⟨(some 59), none, .mv (.t 8)⟩,
                ⟨(some 5), none, .mv (.t 58)⟩,
                ⟨(some 6), none, .mv (.t 59)⟩] [0, 1, 5, 6, 7, 8]))
            (.seq (.rg [⟨(some 4), none, .mv (.c (.bool false))⟩] [4])
            .ret))))))))))
def fn74L0 : Cd := .loop [0, 1, 5, 6, 7, 8] fn74B0
def fn74 : Vs.Fn := ⟨2,
  (.seq (.rg [⟨(some 4), none, .mv (.c (.bool false))⟩] [0, 1])
  (.seq (.rg [⟨(some 5), none, .mv (.c (.int .i64 0))⟩,
      ⟨(some 6), none, .mv (.c (.int .i64 0))⟩,
      ⟨(some 7), none, .mv (.c (.int .i64 (-1)))⟩,
      ⟨(some 8), none, .mv (.c (.int .i64 0))⟩] [0, 1, 5, 6, 7, 8])
  (.seq (.block 0
    fn74L0)
  (.seq (.rg [⟨(some 60), none, .mv (.t 0)⟩,
      ⟨(some 61), none, .mv (.t 5)⟩,
      ⟨(some 62), none, .slst (.t 60) (some (.t 61)) none⟩,
      ⟨(some 63), none, .call 2 (.f 81) [(.t 62), (.c (.string ⟨#[42]⟩))]⟩,
      ⟨(some 64), none, .bin .eql (.t 63) (.c (.string ⟨#[]⟩))⟩,
      ⟨(some 4), none, .mv (.t 64)⟩] [4])
  .ret)))),
  [.t 4]⟩

/- internal/stringslite.IndexByte -/
def an75 : Ann := [[0, 1], [2], [4]]
def fn75 : Vs.Fn := ⟨2,
  (.seq (.rg [⟨(some 4), none, .mv (.c (.int .i64 0))⟩] [0, 1])
  (.seq (.rg [⟨(some 5), none, .mv (.t 0)⟩,
      ⟨(some 6), none, .mv (.t 1)⟩,
      ⟨(some 7), none, .pr .ixb [(.t 5), (.t 6)]⟩,
      ⟨(some 4), none, .mv (.t 7)⟩] [4])
  .ret)),
  [.t 4]⟩

/- internal/bytealg.CompareString -/
def an76 : Ann := [[0, 1], [2], [4]]
def fn76 : Vs.Fn := ⟨2,
  (.seq (.rg [⟨(some 4), none, .mv (.c (.int .i64 0))⟩] [0, 1])
  (.seq (.rg [⟨(some 5), none, .mv (.t 0)⟩,
      ⟨(some 6), none, .mv (.t 1)⟩,
      ⟨(some 7), none, .pr .cmps [(.t 5), (.t 6)]⟩,
      ⟨(some 4), none, .mv (.t 7)⟩] [4])
  .ret)),
  [.t 4]⟩

/- slices.Reverse[[]spillway/history.row,spillway/history.row] -/
def an77 : Ann := [[0, 2, 3], [0, 2, 3], [0, 2, 3, 9], [0, 2, 3], [0, 2, 3]]
def fn77B0 : Cd :=
  (.seq (.seq (.rg [⟨(some 7), none, .mv (.t 2)⟩,
      ⟨(some 8), none, .mv (.t 3)⟩,
      ⟨(some 9), none, .bin .lss (.t 7) (.t 8)⟩] [0, 2, 3, 9])
  (.cond (.t 9)
    .skip
    (.exit 0)))
  (.seq (.block 1
    (.rg [⟨(some 14), none, .mv (.t 0)⟩,
        ⟨(some 15), none, .mv (.t 2)⟩,
        ⟨(some 16), none, .mv (.t 0)⟩,
        ⟨(some 17), none, .mv (.t 3)⟩,
        ⟨(some 18), none, .mv (.t 0)⟩,
        ⟨(some 19), none, .mv (.t 3)⟩,
        ⟨(some 20), none, .iad 2 (.t 18) (.t 19)⟩,
        ⟨(some 21), none, .load true 2 (.t 20) false⟩,
        ⟨(some 22), none, .mv (.t 0)⟩,
        ⟨(some 23), none, .mv (.t 2)⟩,
        ⟨(some 24), none, .iad 2 (.t 22) (.t 23)⟩,
        ⟨(some 25), none, .load true 2 (.t 24) false⟩,
        ⟨(some 26), none, .iad 2 (.t 14) (.t 15)⟩,
        ⟨none, none, .store 2 (.t 26) (.t 21)⟩,
        ⟨(some 27), none, .iad 2 (.t 16) (.t 17)⟩,
        ⟨none, none, .store 2 (.t 27) (.t 25)⟩] [0, 2, 3]))
  (.rg [⟨(some 10), none, .mv (.t 2)⟩,
      ⟨(some 11), none, .bin .add (.t 10) (.c (.int .i64 1))⟩,
      ⟨(some 12), none, .mv (.t 3)⟩,
      ⟨(some 13), none, .bin .sub (.t 12) (.c (.int .i64 1))⟩,
      ⟨(some 2), none, .mv (.t 11)⟩,
      ⟨(some 3), none, .mv (.t 13)⟩] [0, 2, 3])))
def fn77L0 : Cd := .loop [0, 2, 3] fn77B0
def fn77 : Vs.Fn := ⟨1,
  (.seq (.rg [⟨(some 4), none, .mv (.t 0)⟩,
      ⟨(some 5), none, .len false (.t 4)⟩,
      ⟨(some 6), none, .bin .sub (.t 5) (.c (.int .i64 1))⟩,
      ⟨(some 2), none, .mv (.c (.int .i64 0))⟩,
      ⟨(some 3), none, .mv (.t 6)⟩] [0, 2, 3])
  (.block 0
    fn77L0)),
  []⟩

/- math/bits.Len64 -/
def an78 : Ann := [[0, 2], [0, 2, 4], [0], [0, 2], [0, 2, 8], [0, 2], [0, 2], [0, 2, 14], [0, 2], [0, 2], [2]]
def fn78 : Vs.Fn := ⟨1,
  (.seq (.rg [⟨(some 2), none, .mv (.c (.int .i64 0))⟩] [0, 2])
  (.seq (.seq (.rg [⟨(some 3), none, .mv (.t 0)⟩,
      ⟨(some 4), none, .bin .geq (.t 3) (.c (.int .u64 4294967296))⟩] [0, 2, 4])
  (.cond (.t 4)
    (.seq (.rg [⟨(some 5), none, .mv (.t 0)⟩,
        ⟨(some 6), none, .bin .shr (.t 5) (.c (.int .u64 32))⟩,
        ⟨(some 0), none, .mv (.t 6)⟩] [0])
    (.rg [⟨(some 2), none, .mv (.c (.int .i64 32))⟩] [0, 2]))
    .skip))
  (.seq (.seq (.rg [⟨(some 7), none, .mv (.t 0)⟩,
      ⟨(some 8), none, .bin .geq (.t 7) (.c (.int .u64 65536))⟩] [0, 2, 8])
  (.cond (.t 8)
    (.seq (.rg [⟨(some 9), none, .mv (.t 0)⟩,
        ⟨(some 10), none, .bin .shr (.t 9) (.c (.int .u64 16))⟩,
        ⟨(some 0), none, .mv (.t 10)⟩] [0, 2])
    (.rg [⟨(some 11), none, .mv (.t 2)⟩,
        ⟨(some 12), none, .bin .add (.t 11) (.c (.int .i64 16))⟩,
        ⟨(some 2), none, .mv (.t 12)⟩] [0, 2]))
    .skip))
  (.seq (.seq (.rg [⟨(some 13), none, .mv (.t 0)⟩,
      ⟨(some 14), none, .bin .geq (.t 13) (.c (.int .u64 256))⟩] [0, 2, 14])
  (.cond (.t 14)
    (.seq (.rg [⟨(some 15), none, .mv (.t 0)⟩,
        ⟨(some 16), none, .bin .shr (.t 15) (.c (.int .u64 8))⟩,
        ⟨(some 0), none, .mv (.t 16)⟩] [0, 2])
    (.rg [⟨(some 17), none, .mv (.t 2)⟩,
        ⟨(some 18), none, .bin .add (.t 17) (.c (.int .i64 8))⟩,
        ⟨(some 2), none, .mv (.t 18)⟩] [0, 2]))
    .skip))
  (.seq (.rg [⟨(some 19), none, .mv (.t 2)⟩,
      ⟨(some 20), none, .mv (.t 0)⟩,
      ⟨(some 21), none, .cvi .u8 (.t 20)⟩,
      ⟨(some 22), none, .ist (.c (.string ⟨#[0, 1, 2, 2, 3, 3, 3, 3, 4, 4, 4, 4, 4, 4, 4, 4, 5, 5, 5, 5, 5, 5, 5, 5, 5, 5, 5, 5, 5, 5, 5, 5, 6, 6, 6, 6, 6, 6, 6, 6, 6, 6, 6, 6, 6, 6, 6, 6, 6, 6, 6, 6, 6, 6, 6, 6, 6, 6, 6, 6, 6, 6, 6, 6, 7, 7, 7, 7, 7, 7, 7, 7, 7, 7, 7, 7, 7, 7, 7, 7, 7, 7, 7, 7, 7, 7, 7, 7, 7, 7, 7, 7, 7, 7, 7, 7, 7, 7, 7, 7, 7, 7, 7, 7, 7, 7, 7, 7, 7, 7, 7, 7, 7, 7, 7, 7, 7, 7, 7, 7, 7, 7, 7, 7, 7, 7, 7, 7, 8, 8, 8, 8, 8, 8, 8, 8, 8, 8, 8, 8, 8, 8, 8, 8, 8, 8, 8, 8, 8, 8, 8, 8, 8, 8, 8, 8, 8, 8, 8, 8, 8, 8, 8, 8, 8, 8, 8, 8, 8, 8, 8, 8, 8, 8, 8, 8, 8, 8, 8, 8, 8, 8, 8, 8, 8, 8, 8, 8, 8, 8, 8, 8, 8, 8, 8, 8, 8, 8, 8, 8, 8, 8, 8, 8, 8, 8, 8, 8, 8, 8, 8, 8, 8, 8, 8, 8, 8, 8, 8, 8, 8, 8, 8, 8, 8, 8, 8, 8, 8, 8, 8, 8, 8, 8, 8, 8, 8, 8, 8, 8, 8, 8, 8, 8, 8, 8, 8, 8, 8, 8, 8, 8, 8, 8, 8, 8]⟩)) (.t 21)⟩,
      ⟨(some 23), none, .cvi .i64 (.t 22)⟩,
      ⟨(some 24), none, .bin .add (.t 19) (.t 23)⟩,
      ⟨(some 2), none, .mv (.t 24)⟩] [2])
  .ret))))),
  [.t 2]⟩

/- internal/stringslite.HasPrefix -/
def an80 : Ann := [[0, 1], [4]]
def fn80 : Vs.Fn := ⟨2,
  (.seq (.rg [⟨(some 4), none, .mv (.c (.bool false))⟩] [0, 1])
  (.seq (.rg [⟨(some 5), none, .mv (.t 0)⟩,
      ⟨(some 6), none, .len true (.t 5)⟩,
      ⟨(some 7), none, .mv (.t 1)⟩,
      ⟨(some 8), none, .len true (.t 7)⟩,
      ⟨(some 9), none, .bin .geq (.t 6) (.t 8)⟩,
      ⟨(some 10), none, .mv (.t 9)⟩,
      ⟨(some 11), some (10, true), .mv (.t 0)⟩,
      ⟨(some 12), some (10, true), .mv (.t 1)⟩,
      ⟨(some 13), some (10, true), .len true (.t 12)⟩,
      ⟨(some 14), some (10, true), .slst (.t 11) none (some (.t 13))⟩,
      ⟨(some 15), some (10, true), .mv (.t 1)⟩,
      ⟨(some 16), some (10, true), .bin .eql (.t 14) (.t 15)⟩,
      ⟨(some 17), none, .pick (.t 10) (.t 16) (.c (.bool false))⟩,
      ⟨(some 4), none, .mv (.t 17)⟩] [4])
  .ret)),
  [.t 4]⟩

/- strings.Trim -/
def an81 : Ann := [[0, 1], [0, 1, 12], [4], [0, 1, 21], [2], [2], [4], [2], [0, 1, 5, 6], [0, 1, 5, 34], [2], [2], [4], [2], [2], [4]]
def fn81 : Vs.Fn := ⟨2,
  (.seq (.rg [⟨(some 4), none, .mv (.c (.string ⟨#[]⟩))⟩] [0, 1])
  (.seq (.seq (.rg [⟨(some 7), none, .mv (.t 0)⟩,
      ⟨(some 8), none, .bin .eql (.t 7) (.c (.string ⟨#[]⟩))⟩,
      ⟨(some 9), none, .mv (.t 8)⟩,
      ⟨(some 10), some (9, false), .mv (.t 1)⟩,
      ⟨(some 11), some (9, false), .bin .eql (.t 10) (.c (.string ⟨#[]⟩))⟩,
      ⟨(some 12), none, .pick (.t 9) (.c (.bool true)) (.t 11)⟩] [0, 1, 12])
  (.cond (.t 12)
    (.seq (.rg [⟨(some 13), none, .mv (.t 0)⟩,
        ⟨(some 4), none, .mv (.t 13)⟩] [4])
    .ret)
    .skip))
  (.seq (.seq (.rg [⟨(some 14), none, .mv (.t 1)⟩,
      ⟨(some 15), none, .len true (.t 14)⟩,
      ⟨(some 16), none, .bin .eql (.t 15) (.c (.int .i64 1))⟩,
      ⟨(some 17), none, .mv (.t 16)⟩,
      ⟨(some 18), some (17, true), .mv (.t 1)⟩,
      ⟨(some 19), some (17, true), .ist (.t 18) (.c (.int .i64 0))⟩,
      ⟨(some 20), some (17, true), .bin .lss (.t 19) (.c (.int .u8 128))⟩,
      ⟨(some 21), none, .pick (.t 17) (.t 20) (.c (.bool false))⟩] [0, 1, 21])
  (.cond (.t 21)
    (.seq (.rg [⟨(some 22), none, .mv (.t 0)⟩,
        ⟨(some 23), none, .mv (.t 1)⟩,
        ⟨(some 24), none, .ist (.t 23) (.c (.int .i64 0))⟩,
        ⟨(some 25), none, .call 2 (.f 85) [(.t 22), (.t 24)]⟩,
        ⟨(some 26), none, .mv (.t 1)⟩,
        ⟨(some 27), none, .ist (.t 26) (.c (.int .i64 0))⟩,
        ⟨(some 28), none, .call 2 (.f 84) [(.t 25), (.t 27)]⟩,
        ⟨(some 4), none, .mv (.t 28)⟩] [4])
    .ret)
    .skip))
  (.seq (.seq (.rg [⟨(some 30), none, .mv (.t 1)⟩,
      ⟨(some 31), none, .call 2 (.f 86) [(.t 30)]⟩,
      ⟨(some 29), none, .mv (.t 31)⟩,
      ⟨(some 32), none, .ext (.t 29) 0⟩,
      ⟨(some 33), none, .ext (.t 29) 1⟩,
      ⟨(some 5), none, .alloc [(.bool false), (.bool false), (.bool false), (.bool false), (.bool false), (.bool false), (.bool false), (.bool false), (.bool false), (.bool false), (.bool false), (.bool false), (.bool false), (.bool false), (.bool false), (.bool false), (.bool false), (.bool false), (.bool false), (.bool false), (.bool false), (.bool false), (.bool false), (.bool false), (.bool false), (.bool false), (.bool false), (.bool false), (.bool false), (.bool false), (.bool false), (.bool false), (.bool false), (.bool false), (.bool false), (.bool false), (.bool false), (.bool false), (.bool false), (.bool false), (.bool false), (.bool false), (.bool false), (.bool false), (.bool false), (.bool false), (.bool false), (.bool false), (.bool false), (.bool false), (.bool false), (.bool false), (.bool false), (.bool false), (.bool false), (.bool false), (.bool false), (.bool false), (.bool false), (.bool false), (.bool false), (.bool false), (.bool false), (.bool false), (.bool false), (.bool false), (.bool false), (.bool false), (.bool false), (.bool false), (.bool false), (.bool false), (.bool false), (.bool false), (.bool false), (.bool false), (.bool false), (.bool false), (.bool false), (.bool false), (.bool false), (.bool false), (.bool false), (.bool false), (.bool false), (.bool false), (.bool false), (.bool false), (.bool false), (.bool false), (.bool false), (.bool false), (.bool false), (.bool false), (.bool false), (.bool false), (.bool false), (.bool false), (.bool false), (.bool false), (.bool false), (.bool false), (.bool false), (.bool false), (.bool false), (.bool false), (.bool false), (.bool false), (.bool false), (.bool false), (.bool false), (.bool false), (.bool false), (.bool false), (.bool false), (.bool false), (.bool false), (.bool false), (.bool false), (.bool false), (.bool false), (.bool false), (.bool false), (.bool false), (.bool false), (.bool false), (.bool false), (.bool false), (.bool false), (.bool false), (.bool false), (.bool false), (.bool false), (.bool false), (.bool false), (.bool false), (.bool false), (.bool false), (.bool false), (.bool false), (.bool false), (.bool false), (.bool false), (.bool false), (.bool false), (.bool false), (.bool false), (.bool false), (.bool false), (.bool false), (.bool false), (.bool false), (.bool false), (.bool false), (.bool false), (.bool false), (.bool false), (.bool false), (.bool false), (.bool false), (.bool false), (.bool false), (.bool false), (.bool false), (.bool false), (.bool false), (.bool false), (.bool false), (.bool false), (.bool false), (.bool false), (.bool false), (.bool false), (.bool false), (.bool false), (.bool false), (.bool false), (.bool false), (.bool false), (.bool false), (.bool false), (.bool false), (.bool false), (.bool false), (.bool false), (.bool false), (.bool false), (.bool false), (.bool false), (.bool false), (.bool false), (.bool false), (.bool false), (.bool false), (.bool false), (.bool false), (.bool false), (.bool false), (.bool false), (.bool false), (.bool false), (.bool false), (.bool false), (.bool false), (.bool false), (.bool false), (.bool false), (.bool false), (.bool false), (.bool false), (.bool false), (.bool false), (.bool false), (.bool false), (.bool false), (.bool false), (.bool false), (.bool false), (.bool false), (.bool false), (.bool false), (.bool false), (.bool false), (.bool false), (.bool false), (.bool false), (.bool false), (.bool false), (.bool false), (.bool false), (.bool false), (.bool false), (.bool false), (.bool false), (.bool false), (.bool false), (.bool false), (.bool false), (.bool false), (.bool false), (.bool false), (.bool false), (.bool false), (.bool false), (.bool false), (.bool false), (.bool false), (.bool false), (.bool false), (.bool false), (.bool false), (.bool false), (.bool false), (.bool false), (.bool false), (.bool false)]⟩,
      ⟨none, none, .store 256 (.t 5) (.t 32)⟩,
      ⟨(some 6), none, .mv (.t 33)⟩] [0, 1, 5, 6])
  (.seq (.rg [⟨(some 34), none, .mv (.t 6)⟩] [0, 1, 5, 34])
  (.cond (.t 34)
    (.seq (.rg [⟨(some 35), none, .mv (.t 0)⟩,
        ⟨(some 36), none, .call 2 (.f 88) [(.t 35), (.t 5)]⟩,
        ⟨(some 37), none, .call 2 (.f 87) [(.t 36), (.t 5)]⟩,
        ⟨(some 4), none, .mv (.t 37)⟩] [4])
    .ret)
    .skip)))
  (.seq (.rg [⟨(some 38), none, .mv (.t 0)⟩,
      ⟨(some 39), none, .mv (.t 1)⟩,
      ⟨(some 40), none, .call 2 (.f 90) [(.t 38), (.t 39)]⟩,
      ⟨(some 41), none, .mv (.t 1)⟩,
      ⟨(some 42), none, .call 2 (.f 89) [(.t 40), (.t 41)]⟩,
      ⟨(some 4), none, .mv (.t 42)⟩] [4])
  .ret))))),
  [.t 4]⟩

/- strings.trimLeftByte -/
def an84 : Ann := [[0, 1], [0, 1], [0, 1, 13], [0, 1], [4]]
def fn84B0 : Cd :=
  (.seq (.seq (.rg [⟨(some 5), none, .mv (.t 0)⟩,
      ⟨(some 6), none, .len true (.t 5)⟩,
      ⟨(some 7), none, .bin .gtr (.t 6) (.c (.int .i64 0))⟩,
      ⟨(some 8), none, .mv (.t 7)⟩,
      ⟨(some 9), some (8, true), .mv (.t 0)⟩,
      ⟨(some 10), some (8, true), .ist (.t 9) (.c (.int .i64 0))⟩,
      ⟨(some 11), some (8, true), .mv (.t 1)⟩,
      ⟨(some 12), some (8, true), .bin .eql (.t 10) (.t 11)⟩,
      ⟨(some 13), none, .pick (.t 8) (.t 12) (.c (.bool false))⟩] [0, 1, 13])
  (.cond (.t 13)
    .skip
    (.exit 0)))
  (.block 1
    (.rg [⟨(some 14), none, .mv (.t 0)⟩,
        ⟨(some 15), none, .slst (.t 14) (some (.c (.int .i64 1))) none⟩,
        ⟨(some 0), none, .mv (.t 15)⟩] [0, 1])))
def fn84L0 : Cd := .loop [0, 1] fn84B0
def fn84 : Vs.Fn := ⟨2,
  (.seq (.rg [⟨(some 4), none, .mv (.c (.string ⟨#[]⟩))⟩] [0, 1])
  (.seq (.block 0
    fn84L0)
  (.seq (.rg [⟨(some 16), none, .mv (.t 0)⟩,
      ⟨(some 4), none, .mv (.t 16)⟩] [4])
  .ret))),
  [.t 4]⟩

/- strings.trimRightByte -/
def an85 : Ann := [[0, 1], [0, 1], [0, 1, 16], [0, 1], [4]]
def fn85B0 : Cd :=
  (.seq (.seq (.rg [⟨(some 5), none, .mv (.t 0)⟩,
      ⟨(some 6), none, .len true (.t 5)⟩,
      ⟨(some 7), none, .bin .gtr (.t 6) (.c (.int .i64 0))⟩,
      ⟨(some 8), none, .mv (.t 7)⟩,
      ⟨(some 9), some (8, true), .mv (.t 0)⟩,
      ⟨(some 10), some (8, true), .mv (.t 0)⟩,
      ⟨(some 11), some (8, true), .len true (.t 10)⟩,
      ⟨(some 12), some (8, true), .bin .sub (.t 11) (.c (.int .i64 1))⟩,
      ⟨(some 13), some (8, true), .ist (.t 9) (.t 12)⟩,
      ⟨(some 14), some (8, true), .mv (.t 1)⟩,
      ⟨(some 15), some (8, true), .bin .eql (.t 13) (.t 14)⟩,
      ⟨(some 16), none, .pick (.t 8) (.t 15) (.c (.bool false))⟩] [0, 1, 16])
  (.cond (.t 16)
    .skip
    (.exit 0)))
  (.block 1
    (.rg [⟨(some 17), none, .mv (.t 0)⟩,
        ⟨(some 18), none, .mv (.t 0)⟩,
        ⟨(some 19), none, .len true (.t 18)⟩,
        ⟨(some 20), none, .bin .sub (.t 19) (.c (.int .i64 1))⟩,
        ⟨(some 21), none, .slst (.t 17) none (some (.t 20))⟩,
        ⟨(some 0), none, .mv (.t 21)⟩] [0, 1])))
def fn85L0 : Cd := .loop [0, 1] fn85B0
def fn85 : Vs.Fn := ⟨2,
  (.seq (.rg [⟨(some 4), none, .mv (.c (.string ⟨#[]⟩))⟩] [0, 1])
  (.seq (.block 0
    fn85L0)
  (.seq (.rg [⟨(some 22), none, .mv (.t 0)⟩,
      ⟨(some 4), none, .mv (.t 22)⟩] [4])
  .ret))),
  [.t 4]⟩

/- strings.makeASCIISet -/
def an86 : Ann := [[0, 2], [0, 2, 4], [0, 2, 4], [0, 2, 4, 9], [0, 2, 4, 5], [0, 2, 4, 5, 16], [2, 3], [0, 2, 4], [0, 2, 4], [2, 3]]
def fn86B0 : Cd :=
  (.seq (.seq (.rg [⟨(some 6), none, .mv (.t 4)⟩,
      ⟨(some 7), none, .mv (.t 0)⟩,
      ⟨(some 8), none, .len true (.t 7)⟩,
      ⟨(some 9), none, .bin .lss (.t 6) (.t 8)⟩] [0, 2, 4, 9])
  (.cond (.t 9)
    .skip
    (.exit 0)))
  (.seq (.block 1
    (.seq (.rg [⟨(some 12), none, .mv (.t 0)⟩,
        ⟨(some 13), none, .mv (.t 4)⟩,
        ⟨(some 14), none, .ist (.t 12) (.t 13)⟩,
        ⟨(some 5), none, .mv (.t 14)⟩] [0, 2, 4, 5])
    (.seq (.seq (.rg [⟨(some 15), none, .mv (.t 5)⟩,
        ⟨(some 16), none, .bin .geq (.t 15) (.c (.int .u8 128))⟩] [0, 2, 4, 5, 16])
    (.cond (.t 16)
      (.seq (.rg [⟨(some 17), none, .load true 256 (.t 2) false⟩,
          ⟨none, none, .store 256 (.t 2) (.t 17)⟩,
          ⟨(some 3), none, .mv (.c (.bool false))⟩] [2, 3])
      .ret)
      .skip))
    (.rg [⟨(some 18), none, .mv (.t 5)⟩,
        ⟨(some 19), none, .iar 256 1 (.t 2) (.t 18)⟩,
        ⟨none, none, .store 1 (.t 19) (.c (.bool true))⟩] [0, 2, 4]))))
  (.rg [⟨(some 10), none, .mv (.t 4)⟩,
      ⟨(some 11), none, .bin .add (.t 10) (.c (.int .i64 1))⟩,
      ⟨(some 4), none, .mv (.t 11)⟩] [0, 2, 4])))
def fn86L0 : Cd := .loop [0, 2, 4] fn86B0
def fn86 : Vs.Fn := ⟨1,
  (.seq (.rg [⟨(some 2), none, .alloc [(.bool false), (.bool false), (.bool false), (.bool false), (.bool false), (.bool false), (.bool false), (.bool false), (.bool false), (.bool false), (.bool false), (.bool false), (.bool false), (.bool false), (.bool false), (.bool false), (.bool false), (.bool false), (.bool false), (.bool false), (.bool false), (.bool false), (.bool false), (.bool false), (.bool false), (.bool false), (.bool false), (.bool false), (.bool false), (.bool false), (.bool false), (.bool false), (.bool false), (.bool false), (.bool false), (.bool false), (.bool false), (.bool false), (.bool false), (.bool false), (.bool false), (.bool false), (.bool false), (.bool false), (.bool false), (.bool false), (.bool false), (.bool false), (.bool false), (.bool false), (.bool false), (.bool false), (.bool false), (.bool false), (.bool false), (.bool false), (.bool false), (.bool false), (.bool false), (.bool false), (.bool false), (.bool false), (.bool false), (.bool false), (.bool false), (.bool false), (.bool false), (.bool false), (.bool false), (.bool false), (.bool false), (.bool false), (.bool false), (.bool false), (.bool false), (.bool false), (.bool false), (.bool false), (.bool false), (.bool false), (.bool false), (.bool false), (.bool false), (.bool false), (.bool false), (.bool false), (.bool false), (.bool false), (.bool false), (.bool false), (.bool false), (.bool false), (.bool false), (.bool false), (.bool false), (.bool false), (.bool false), (.bool false), (.bool false), (.bool false), (.bool false), (.bool false), (.bool false), (.bool false), (.bool false), (.bool false), (.bool false), (.bool false), (.bool false), (.bool false), (.bool false), (.bool false), (.bool false), (.bool false), (.bool false), (.bool false), (.bool false), (.bool false), (.bool false), (.bool false), (.bool false), (.bool false), (.bool false), (.bool false), (.bool false), (.bool false), (.bool false), (.bool false), (.bool false), (.bool false), (.bool false), (.bool false), (.bool false), (.bool false), (.bool false), (.bool false), (.bool false), (.bool false), (.bool false), (.bool false), (.bool false), (.bool false), (.bool false), (.bool false), (.bool false), (.bool false), (.bool false), (.bool false), (.bool false), (.bool false), (.bool false), (.bool false), (.bool false), (.bool false), (.bool false), (.bool false), (.bool false), (.bool false), (.bool false), (.bool false), (.bool false), (.bool false), (.bool false), (.bool false), (.bool false), (.bool false), (.bool false), (.bool false), (.bool false), (.bool false), (.bool false), (.bool false), (.bool false), (.bool false), (.bool false), (.bool false), (.bool false), (.bool false), (.bool false), (.bool false), (.bool false), (.bool false), (.bool false), (.bool false), (.bool false), (.bool false), (.bool false), (.bool false), (.bool false), (.bool false), (.bool false), (.bool false), (.bool false), (.bool false), (.bool false), (.bool false), (.bool false), (.bool false), (.bool false), (.bool false), (.bool false), (.bool false), (.bool false), (.bool false), (.bool false), (.bool false), (.bool false), (.bool false), (.bool false), (.bool false), (.bool false), (.bool false), (.bool false), (.bool false), (.bool false), (.bool false), (.bool false), (.bool false), (.bool false), (.bool false), (.bool false), (.bool false), (.bool false), (.bool false), (.bool false), (.bool false), (.bool false), (.bool false), (.bool false), (.bool false), (.bool false), (.bool false), (.bool false), (.bool false), (.bool false), (.bool false), (.bool false), (.bool false), (.bool false), (.bool false), (.bool false), (.bool false), (.bool false), (.bool false), (.bool false), (.bool false), (.bool false), (.bool false), (.bool false), (.bool false), (.bool false), (.bool false), (.bool false), (.bool false), (.bool false), (.bool false)]⟩,
      ⟨(some 3), none, .mv (.c (.bool false))⟩] [0, 2])
  (.seq (.seq (.rg [⟨(some 4), none, .mv (.c (.int .i64 0))⟩] [0, 2, 4])
  (.block 0
    fn86L0))
  (.seq (.rg [⟨(some 20), none, .load true 256 (.t 2) false⟩,
      ⟨none, none, .store 256 (.t 2) (.t 20)⟩,
      ⟨(some 3), none, .mv (.c (.bool true))⟩] [2, 3])
  .ret))),
  [.cell 2 true 256, .t 3]⟩

/- strings.trimLeftASCII -/
def an87 : Ann := [[0, 1], [0, 1], [0, 1, 7], [2], [0, 1, 12], [0, 1], [4]]
def fn87B0 : Cd :=
  (.seq (.seq (.rg [⟨(some 5), none, .mv (.t 0)⟩,
      ⟨(some 6), none, .len true (.t 5)⟩,
      ⟨(some 7), none, .bin .gtr (.t 6) (.c (.int .i64 0))⟩] [0, 1, 7])
  (.cond (.t 7)
    .skip
    (.exit 0)))
  (.block 1
    (.seq (.seq (.rg [⟨(some 8), none, .mv (.t 1)⟩,
        ⟨(some 9), none, .mv (.t 0)⟩,
        ⟨(some 10), none, .ist (.t 9) (.c (.int .i64 0))⟩,
        ⟨(some 11), none, .call 2 (.f 91) [(.t 8), (.t 10)]⟩,
        ⟨(some 12), none, .un .not (.t 11)⟩] [0, 1, 12])
    (.cond (.t 12)
      (.exit 0)
      .skip))
    (.rg [⟨(some 13), none, .mv (.t 0)⟩,
        ⟨(some 14), none, .slst (.t 13) (some (.c (.int .i64 1))) none⟩,
        ⟨(some 0), none, .mv (.t 14)⟩] [0, 1]))))
def fn87L0 : Cd := .loop [0, 1] fn87B0
def fn87 : Vs.Fn := ⟨2,
  (.seq (.rg [⟨(some 4), none, .mv (.c (.string ⟨#[]⟩))⟩] [0, 1])
  (.seq (.block 0
    fn87L0)
  (.seq (.rg [⟨(some 15), none, .mv (.t 0)⟩,
      ⟨(some 4), none, .mv (.t 15)⟩] [4])
  .ret))),
  [.t 4]⟩

/- strings.trimRightASCII -/
def an88 : Ann := [[0, 1], [0, 1], [0, 1, 7], [2], [0, 1, 15], [0, 1], [4]]
def fn88B0 : Cd :=
  (.seq (.seq (.rg [⟨(some 5), none, .mv (.t 0)⟩,
      ⟨(some 6), none, .len true (.t 5)⟩,
      ⟨(some 7), none, .bin .gtr (.t 6) (.c (.int .i64 0))⟩] [0, 1, 7])
  (.cond (.t 7)
    .skip
    (.exit 0)))
  (.block 1
    (.seq (.seq (.rg [⟨(some 8), none, .mv (.t 1)⟩,
        ⟨(some 9), none, .mv (.t 0)⟩,
        ⟨(some 10), none, .mv (.t 0)⟩,
        ⟨(some 11), none, .len true (.t 10)⟩,
        ⟨(some 12), none, .bin .sub (.t 11) (.c (.int .i64 1))⟩,
        ⟨(some 13), none, .ist (.t 9) (.t 12)⟩,
        ⟨(some 14), none, .call 2 (.f 91) [(.t 8), (.t 13)]⟩,
        ⟨(some 15), none, .un .not (.t 14)⟩] [0, 1, 15])
    (.cond (.t 15)
      (.exit 0)
      .skip))
    (.rg [⟨(some 16), none, .mv (.t 0)⟩,
        ⟨(some 17), none, .mv (.t 0)⟩,
        ⟨(some 18), none, .len true (.t 17)⟩,
        ⟨(some 19), none, .bin .sub (.t 18) (.c (.int .i64 1))⟩,
        ⟨(some 20), none, .slst (.t 16) none (some (.t 19))⟩,
        ⟨(some 0), none, .mv (.t 20)⟩] [0, 1]))))
def fn88L0 : Cd := .loop [0, 1] fn88B0
def fn88 : Vs.Fn := ⟨2,
  (.seq (.rg [⟨(some 4), none, .mv (.c (.string ⟨#[]⟩))⟩] [0, 1])
  (.seq (.block 0
    fn88L0)
  (.seq (.rg [⟨(some 21), none, .mv (.t 0)⟩,
      ⟨(some 4), none, .mv (.t 21)⟩] [4])
  .ret))),
  [.t 4]⟩

/- strings.trimLeftUnicode -/
def an89 : Ann := [[0, 1], [0, 1], [0, 1, 9], [2], [0, 1, 5, 6], [2], [0, 1, 6, 18], [0, 1], [4]]
def fn89B0 : Cd :=
  (.seq (.seq (.rg [⟨(some 7), none, .mv (.t 0)⟩,
      ⟨(some 8), none, .len true (.t 7)⟩,
      ⟨(some 9), none, .bin .gtr (.t 8) (.c (.int .i64 0))⟩] [0, 1, 9])
  (.cond (.t 9)
    .skip
    (.exit 0)))
  (.block 1
    (.seq (.rg [⟨(some 11), none, .mv (.t 0)⟩,
        ⟨(some 12), none, .call 2 (.f 92) [(.t 11)]⟩,
        ⟨(some 10), none, .mv (.t 12)⟩,
        ⟨(some 13), none, .ext (.t 10) 0⟩,
        ⟨(some 14), none, .ext (.t 10) 1⟩,
        ⟨(some 5), none, .mv (.t 13)⟩,
        ⟨(some 6), none, .mv (.t 14)⟩] [0, 1, 5, 6])
    (.seq (.seq (.rg [⟨(some 15), none, .mv (.t 1)⟩,
        ⟨(some 16), none, .mv (.t 5)⟩,
        ⟨(some 17), none, .call 2 (.f 93) [(.t 15), (.t 16)]⟩,
        ⟨(some 18), none, .un .not (.t 17)⟩] [0, 1, 6, 18])
    (.cond (.t 18)
      (.exit 0)
      .skip))
    (.rg [⟨(some 19), none, .mv (.t 0)⟩,
        ⟨(some 20), none, .mv (.t 6)⟩,
        ⟨(some 21), none, .slst (.t 19) (some (.t 20)) none⟩,
        ⟨(some 0), none, .mv (.t 21)⟩] [0, 1])))))
def fn89L0 : Cd := .loop [0, 1] fn89B0
def fn89 : Vs.Fn := ⟨2,
  (.seq (.rg [⟨(some 4), none, .mv (.c (.string ⟨#[]⟩))⟩] [0, 1])
  (.seq (.block 0
    fn89L0)
  (.seq (.rg [⟨(some 22), none, .mv (.t 0)⟩,
      ⟨(some 4), none, .mv (.t 22)⟩] [4])
  .ret))),
  [.t 4]⟩

/- strings.trimRightUnicode -/
def an90 : Ann := [[0, 1], [0, 1], [0, 1, 9], [0, 1, 5, 6], [0, 1, 5, 6, 17], [2], [0, 1, 5, 6], [2], [0, 1, 6, 26], [0, 1], [4]]
def fn90B0 : Cd :=
  (.seq (.seq (.rg [⟨(some 7), none, .mv (.t 0)⟩,
      ⟨(some 8), none, .len true (.t 7)⟩,
      ⟨(some 9), none, .bin .gtr (.t 8) (.c (.int .i64 0))⟩] [0, 1, 9])
  (.cond (.t 9)
    .skip
    (.exit 0)))
  (.block 1
    (.seq (.rg [⟨(some 10), none, .mv (.t 0)⟩,
        ⟨(some 11), none, .mv (.t 0)⟩,
        ⟨(some 12), none, .len true (.t 11)⟩,
        ⟨(some 13), none, .bin .sub (.t 12) (.c (.int .i64 1))⟩,
        ⟨(some 14), none, .ist (.t 10) (.t 13)⟩,
        ⟨(some 15), none, .cvi .i32 (.t 14)⟩,
        ⟨(some 5), none, .mv (.t 15)⟩,
        ⟨(some 6), none, .mv (.c (.int .i64 1))⟩] [0, 1, 5, 6])
    (.seq (.seq (.rg [⟨(some 16), none, .mv (.t 5)⟩,
        ⟨(some 17), none, .bin .geq (.t 16) (.c (.int .i32 128))⟩] [0, 1, 5, 6, 17])
    (.cond (.t 17)
      (.rg [⟨(some 19), none, .mv (.t 0)⟩,
          ⟨(some 20), none, .call 2 (.f 94) [(.t 19)]⟩,
          ⟨(some 18), none, .mv (.t 20)⟩,
          ⟨(some 21), none, .ext (.t 18) 0⟩,
          ⟨(some 22), none, .ext (.t 18) 1⟩,
          ⟨(some 5), none, .mv (.t 21)⟩,
          ⟨(some 6), none, .mv (.t 22)⟩] [0, 1, 5, 6])
      .skip))
    (.seq (.seq (.rg [⟨(some 23), none, .mv (.t 1)⟩,
        ⟨(some 24), none, .mv (.t 5)⟩,
        ⟨(some 25), none, .call 2 (.f 93) [(.t 23), (.t 24)]⟩,
        ⟨(some 26), none, .un .not (.t 25)⟩] [0, 1, 6, 26])
    (.cond (.t 26)
      (.exit 0)
      .skip))
    (.rg [⟨(some 27), none, .mv (.t 0)⟩,
        ⟨(some 28), none, .mv (.t 0)⟩,
        ⟨(some 29), none, .len true (.t 28)⟩,
        ⟨(some 30), none, .mv (.t 6)⟩,
        ⟨(some 31), none, .bin .sub (.t 29) (.t 30)⟩,
        ⟨(some 32), none, .slst (.t 27) none (some (.t 31))⟩,
        ⟨(some 0), none, .mv (.t 32)⟩] [0, 1]))))))
def fn90L0 : Cd := .loop [0, 1] fn90B0
def fn90 : Vs.Fn := ⟨2,
  (.seq (.rg [⟨(some 4), none, .mv (.c (.string ⟨#[]⟩))⟩] [0, 1])
  (.seq (.block 0
    fn90L0)
  (.seq (.rg [⟨(some 33), none, .mv (.t 0)⟩,
      ⟨(some 4), none, .mv (.t 33)⟩] [4])
  .ret))),
  [.t 4]⟩

/- (*strings.asciiSet).contains -/
def an91 : Ann := [[0, 1], [4]]
def fn91 : Vs.Fn := ⟨2,
  (.seq (.rg [⟨(some 4), none, .mv (.c (.bool false))⟩] [0, 1])
  (.seq (.rg [⟨(some 5), none, .mv (.t 0)⟩,
      ⟨(some 6), none, .mv (.t 1)⟩,
      ⟨(some 7), none, .nilck (.t 5)⟩,
      ⟨(some 8), none, .iar 256 1 (.t 7) (.t 6)⟩,
      ⟨(some 9), none, .load false 1 (.t 8) false⟩,
      ⟨(some 4), none, .mv (.t 9)⟩] [4])
  .ret)),
  [.t 4]⟩

/- unicode/utf8.DecodeRuneInString -/
def an92 : Ann := [[0], [0, 10], [2, 3], [2], [2, 3]]
def fn92 : Vs.Fn := ⟨1,
  (.seq (.rg [⟨(some 2), none, .mv (.c (.int .i32 0))⟩,
      ⟨(some 3), none, .mv (.c (.int .i64 0))⟩] [0])
  (.seq (.seq (.rg [⟨(some 4), none, .mv (.t 0)⟩,
      ⟨(some 5), none, .bin .neq (.t 4) (.c (.string ⟨#[]⟩))⟩,
      ⟨(some 6), none, .mv (.t 5)⟩,
      ⟨(some 7), some (6, true), .mv (.t 0)⟩,
      ⟨(some 8), some (6, true), .ist (.t 7) (.c (.int .i64 0))⟩,
      ⟨(some 9), some (6, true), .bin .lss (.t 8) (.c (.int .u8 128))⟩,
      ⟨(some 10), none, .pick (.t 6) (.t 9) (.c (.bool false))⟩] [0, 10])
  (.cond (.t 10)
    (.seq (.rg [⟨(some 11), none, .mv (.t 0)⟩,
        ⟨(some 12), none, .ist (.t 11) (.c (.int .i64 0))⟩,
        ⟨(some 13), none, .cvi .i32 (.t 12)⟩,
        ⟨(some 2), none, .mv (.t 13)⟩,
        ⟨(some 3), none, .mv (.c (.int .i64 1))⟩] [2, 3])
    .ret)
    (.rg [⟨(some 15), none, .mv (.t 0)⟩,
        ⟨(some 16), none, .call 2 (.f 95) [(.t 15)]⟩,
        ⟨(some 14), none, .mv (.t 16)⟩,
        ⟨(some 17), none, .ext (.t 14) 0⟩,
        ⟨(some 18), none, .ext (.t 14) 1⟩,
        ⟨(some 2), none, .mv (.t 17)⟩,
        ⟨(some 3), none, .mv (.t 18)⟩] [2, 3])))
  .ret)),
  [.t 2, .t 3]⟩

/- strings.ContainsRune -/
def an93 : Ann := [[0, 1], [2], [4]]
def fn93 : Vs.Fn := ⟨2,
  (.seq (.rg [⟨(some 4), none, .mv (.c (.bool false))⟩] [0, 1])
  (.seq (.rg [⟨(some 5), none, .mv (.t 0)⟩,
      ⟨(some 6), none, .mv (.t 1)⟩,
      ⟨(some 7), none, .call 2 (.f 96) [(.t 5), (.t 6)]⟩,
      ⟨(some 8), none, .bin .geq (.t 7) (.c (.int .i64 0))⟩,
      ⟨(some 4), none, .mv (.t 8)⟩] [4])
  .ret)),
  [.t 4]⟩

/- unicode/utf8.DecodeLastRuneInString -/
def an94 : Ann := [[0], [0, 4], [0, 4, 10], [2, 3], [0, 4, 5], [0, 2, 4, 5], [0, 2, 4, 5, 18], [2, 3], [0, 4, 5, 6], [0, 4, 5, 6], [0, 4, 5, 6], [0, 4, 5, 6, 27], [2], [0, 4, 5, 6, 33], [0, 4, 5, 6], [0, 4, 5, 35], [0, 4, 5], [2], [2, 3, 4, 5], [2, 3, 48], [2, 3], [2, 3]]
def fn94B0 : Cd :=
  (.seq (.seq (.rg [⟨(some 25), none, .mv (.t 5)⟩,
      ⟨(some 26), none, .mv (.t 6)⟩,
      ⟨(some 27), none, .bin .geq (.t 25) (.t 26)⟩] [0, 4, 5, 6, 27])
  (.cond (.t 27)
    .skip
    (.exit 0)))
  (.seq (.block 1
    (.seq (.rg [⟨(some 30), none, .mv (.t 0)⟩,
        ⟨(some 31), none, .mv (.t 5)⟩,
        ⟨(some 32), none, .ist (.t 30) (.t 31)⟩,
        ⟨(some 33), none, .call 2 (.f 97) [(.t 32)]⟩] [0, 4, 5, 6, 33])
    (.cond (.t 33)
      (.exit 0)
      .skip)))
  (.rg [⟨(some 28), none, .mv (.t 5)⟩,
      ⟨(some 29), none, .bin .sub (.t 28) (.c (.int .i64 1))⟩,
      ⟨(some 5), none, .mv (.t 29)⟩] [0, 4, 5, 6])))
def fn94L0 : Cd := .loop [0, 4, 5, 6] fn94B0
def fn94 : Vs.Fn := ⟨1,
  (.seq (.rg [⟨(some 2), none, .mv (.c (.int .i32 0))⟩,
      ⟨(some 3), none, .mv (.c (.int .i64 0))⟩] [0])
  (.seq (.rg [⟨(some 7), none, .mv (.t 0)⟩,
      ⟨(some 8), none, .len true (.t 7)⟩,
      ⟨(some 4), none, .mv (.t 8)⟩] [0, 4])
  (.seq (.seq (.rg [⟨(some 9), none, .mv (.t 4)⟩,
      ⟨(some 10), none, .bin .eql (.t 9) (.c (.int .i64 0))⟩] [0, 4, 10])
  (.cond (.t 10)
    (.seq (.rg [⟨(some 2), none, .mv (.c (.int .i32 65533))⟩,
        ⟨(some 3), none, .mv (.c (.int .i64 0))⟩] [2, 3])
    .ret)
    .skip))
  (.seq (.rg [⟨(some 11), none, .mv (.t 4)⟩,
      ⟨(some 12), none, .bin .sub (.t 11) (.c (.int .i64 1))⟩,
      ⟨(some 5), none, .mv (.t 12)⟩] [0, 4, 5])
  (.seq (.rg [⟨(some 13), none, .mv (.t 0)⟩,
      ⟨(some 14), none, .mv (.t 5)⟩,
      ⟨(some 15), none, .ist (.t 13) (.t 14)⟩,
      ⟨(some 16), none, .cvi .i32 (.t 15)⟩,
      ⟨(some 2), none, .mv (.t 16)⟩] [0, 2, 4, 5])
  (.seq (.seq (.rg [⟨(some 17), none, .mv (.t 2)⟩,
      ⟨(some 18), none, .bin .lss (.t 17) (.c (.int .i32 128))⟩] [0, 2, 4, 5, 18])
  (.cond (.t 18)
    (.seq (.rg [⟨(some 19), none, .mv (.t 2)⟩,
        ⟨(some 2), none, .mv (.t 19)⟩,
        ⟨(some 3), none, .mv (.c (.int .i64 1))⟩] [2, 3])
    .ret)
    .skip))
  (.seq (.rg [⟨(some 20), none, .mv (.t 4)⟩,
      ⟨(some 21), none, .bin .sub (.t 20) (.c (.int .i64 4))⟩,
      ⟨(some 22), none, .mx [(.t 21), (.c (.int .i64 0))]⟩,
      ⟨(some 6), none, .mv (.t 22)⟩] [0, 4, 5, 6])
  (.seq (.seq (.rg [⟨(some 23), none, .mv (.t 5)⟩,
      ⟨(some 24), none, .bin .sub (.t 23) (.c (.int .i64 1))⟩,
      ⟨(some 5), none, .mv (.t 24)⟩] [0, 4, 5, 6])
  (.block 0
    fn94L0))
  (.seq (.seq (.rg [⟨(some 34), none, .mv (.t 5)⟩,
      ⟨(some 35), none, .bin .lss (.t 34) (.c (.int .i64 0))⟩] [0, 4, 5, 35])
  (.cond (.t 35)
    (.rg [⟨(some 5), none, .mv (.c (.int .i64 0))⟩] [0, 4, 5])
    .skip))
  (.seq (.rg [⟨(some 37), none, .mv (.t 0)⟩,
      ⟨(some 38), none, .mv (.t 5)⟩,
      ⟨(some 39), none, .mv (.t 4)⟩,
      ⟨(some 40), none, .slst (.t 37) (some (.t 38)) (some (.t 39))⟩,
      ⟨(some 41), none, .call 2 (.f 92) [(.t 40)]⟩,
      ⟨(some 36), none, .mv (.t 41)⟩,
      ⟨(some 42), none, .ext (.t 36) 0⟩,
      ⟨(some 43), none, .ext (.t 36) 1⟩,
      ⟨(some 2), none, .mv (.t 42)⟩,
      ⟨(some 3), none, .mv (.t 43)⟩] [2, 3, 4, 5])
  (.seq (.seq (.rg [⟨(some 44), none, .mv (.t 5)⟩,
      ⟨(some 45), none, .mv (.t 3)⟩,
      ⟨(some 46), none, .bin .add (.t 44) (.t 45)⟩,
      ⟨(some 47), none, .mv (.t 4)⟩,
      ⟨(some 48), none, .bin .neq (.t 46) (.t 47)⟩] [2, 3, 48])
  (.cond (.t 48)
    (.seq (.rg [⟨(some 2), none, .mv (.c (.int .i32 65533))⟩,
        ⟨(some 3), none, .mv (.c (.int .i64 1))⟩] [2, 3])
    .ret)
    .skip))
  (.seq (.rg [⟨(some 49), none, .mv (.t 2)⟩,
      ⟨(some 50), none, .mv (.t 3)⟩,
      ⟨(some 2), none, .mv (.t 49)⟩,
      ⟨(some 3), none, .mv (.t 50)⟩] [2, 3])
  .ret)))))))))))),
  [.t 2, .t 3]⟩

/- unicode/utf8.decodeRuneInStringSlow -/
def an95 : Ann := [[0], [0, 4], [0, 4, 16], [2, 3], [0, 4, 5], [0, 4, 5, 6], [0, 4, 5, 6, 23], [0, 7], [2, 3], [0, 4, 5, 6, 8], [0, 4, 5, 8, 9], [0, 5, 8, 9, 45], [2, 3], [0, 5, 8, 9, 10], [0, 5, 8, 10, 57], [2, 3], [0, 5, 8, 10, 59], [2, 3], [0, 5, 8, 10, 11], [0, 5, 8, 10, 11, 75], [2, 3], [0, 5, 10, 11, 77], [2, 3], [5, 10, 11, 12], [5, 10, 11, 12, 98], [2, 3], [2, 3]]
def fn95 : Vs.Fn := ⟨1,
  (.seq (.rg [⟨(some 2), none, .mv (.c (.int .i32 0))⟩,
      ⟨(some 3), none, .mv (.c (.int .i64 0))⟩] [0])
  (.seq (.rg [⟨(some 13), none, .mv (.t 0)⟩,
      ⟨(some 14), none, .len true (.t 13)⟩,
      ⟨(some 4), none, .mv (.t 14)⟩] [0, 4])
  (.seq (.seq (.rg [⟨(some 15), none, .mv (.t 4)⟩,
      ⟨(some 16), none, .bin .lss (.t 15) (.c (.int .i64 1))⟩] [0, 4, 16])
  (.cond (.t 16)
    (.seq (.rg [⟨(some 2), none, .mv (.c (.int .i32 65533))⟩,
        ⟨(some 3), none, .mv (.c (.int .i64 0))⟩] [2, 3])
    .ret)
    .skip))
  (.seq (.rg [⟨(some 17), none, .mv (.t 0)⟩,
      ⟨(some 18), none, .ist (.t 17) (.c (.int .i64 0))⟩,
      ⟨(some 5), none, .mv (.t 18)⟩] [0, 4, 5])
  (.seq .bad
  (.seq (.seq (.rg [⟨(some 22), none, .mv (.t 6)⟩,
      ⟨(some 23), none, .bin .geq (.t 22) (.c (.int .u8 240))⟩] [0, 4, 5, 6, 23])
  (.cond (.t 23)
    (.seq (.rg [⟨(some 24), none, .mv (.t 6)⟩,
        ⟨(some 25), none, .cvi .i32 (.t 24)⟩,
        ⟨(some 26), none, .bin .shl (.t 25) (.c (.int .u64 31))⟩,
        ⟨(some 27), none, .bin .shr (.t 26) (.c (.int .u64 31))⟩,
        ⟨(some 7), none, .mv (.t 27)⟩] [0, 7])
    (.seq (.rg [⟨(some 28), none, .mv (.t 0)⟩,
        ⟨(some 29), none, .ist (.t 28) (.c (.int .i64 0))⟩,
        ⟨(some 30), none, .cvi .i32 (.t 29)⟩,
        ⟨(some 31), none, .mv (.t 7)⟩,
        ⟨(some 32), none, .bin .andNot (.t 30) (.t 31)⟩,
        ⟨(some 33), none, .mv (.t 7)⟩,
        ⟨(some 34), none, .bin .and (.c (.int .i32 65533)) (.t 33)⟩,
        ⟨(some 35), none, .bin .or (.t 32) (.t 34)⟩,
        ⟨(some 2), none, .mv (.t 35)⟩,
        ⟨(some 3), none, .mv (.c (.int .i64 1))⟩] [2, 3])
    .ret))
    .skip))
  (.seq (.rg [⟨(some 36), none, .mv (.t 6)⟩,
      ⟨(some 37), none, .bin .and (.t 36) (.c (.int .u8 7))⟩,
      ⟨(some 38), none, .cvi .i64 (.t 37)⟩,
      ⟨(some 8), none, .mv (.t 38)⟩] [0, 4, 5, 6, 8])
  (.seq .bad
  (.seq (.seq (.rg [⟨(some 43), none, .mv (.t 4)⟩,
      ⟨(some 44), none, .mv (.t 8)⟩,
      ⟨(some 45), none, .bin .lss (.t 43) (.t 44)⟩] [0, 5, 8, 9, 45])
  (.cond (.t 45)
    (.seq (.rg [⟨(some 2), none, .mv (.c (.int .i32 65533))⟩,
        ⟨(some 3), none, .mv (.c (.int .i64 1))⟩] [2, 3])
    .ret)
    .skip))
  (.seq (.rg [⟨(some 46), none, .mv (.t 0)⟩,
      ⟨(some 47), none, .ist (.t 46) (.c (.int .i64 1))⟩,
      ⟨(some 10), none, .mv (.t 47)⟩] [0, 5, 8, 9, 10])
  (.seq (.seq (.rg [⟨(some 48), none, .mv (.t 10)⟩,
      ⟨(some 49), none, .fad 0 (.t 9)⟩,
      ⟨(some 50), none, .load false 1 (.t 49) false⟩,
      ⟨(some 51), none, .bin .lss (.t 48) (.t 50)⟩,
      ⟨(some 52), none, .mv (.t 51)⟩,
      ⟨(some 53), some (52, false), .fad 1 (.t 9)⟩,
      ⟨(some 54), some (52, false), .load false 1 (.t 53) false⟩,
      ⟨(some 55), some (52, false), .mv (.t 10)⟩,
      ⟨(some 56), some (52, false), .bin .lss (.t 54) (.t 55)⟩,
      ⟨(some 57), none, .pick (.t 52) (.c (.bool true)) (.t 56)⟩] [0, 5, 8, 10, 57])
  (.cond (.t 57)
    (.seq (.rg [⟨(some 2), none, .mv (.c (.int .i32 65533))⟩,
        ⟨(some 3), none, .mv (.c (.int .i64 1))⟩] [2, 3])
    .ret)
    .skip))
  (.seq (.seq (.rg [⟨(some 58), none, .mv (.t 8)⟩,
      ⟨(some 59), none, .bin .leq (.t 58) (.c (.int .i64 2))⟩] [0, 5, 8, 10, 59])
  (.cond (.t 59)
    (.seq (.rg [⟨(some 60), none, .mv (.t 5)⟩,
        ⟨(some 61), none, .bin .and (.t 60) (.c (.int .u8 31))⟩,
        ⟨(some 62), none, .cvi .i32 (.t 61)⟩,
        ⟨(some 63), none, .bin .shl (.t 62) (.c (.int .u64 6))⟩,
        ⟨(some 64), none, .mv (.t 10)⟩,
        ⟨(some 65), none, .bin .and (.t 64) (.c (.int .u8 63))⟩,
        ⟨(some 66), none, .cvi .i32 (.t 65)⟩,
        ⟨(some 67), none, .bin .or (.t 63) (.t 66)⟩,
        ⟨(some 2), none, .mv (.t 67)⟩,
        ⟨(some 3), none, .mv (.c (.int .i64 2))⟩] [2, 3])
    .ret)
    .skip))
  (.seq (.rg [⟨(some 68), none, .mv (.t 0)⟩,
      ⟨(some 69), none, .ist (.t 68) (.c (.int .i64 2))⟩,
      ⟨(some 11), none, .mv (.t 69)⟩] [0, 5, 8, 10, 11])
  (.seq (.seq (.rg [⟨(some 70), none, .mv (.t 11)⟩,
      ⟨(some 71), none, .bin .lss (.t 70) (.c (.int .u8 128))⟩,
      ⟨(some 72), none, .mv (.t 71)⟩,
      ⟨(some 73), some (72, false), .mv (.t 11)⟩,
      ⟨(some 74), some (72, false), .bin .lss (.c (.int .u8 191)) (.t 73)⟩,
      ⟨(some 75), none, .pick (.t 72) (.c (.bool true)) (.t 74)⟩] [0, 5, 8, 10, 11, 75])
  (.cond (.t 75)
    (.seq (.rg [⟨(some 2), none, .mv (.c (.int .i32 65533))⟩,
        ⟨(some 3), none, .mv (.c (.int .i64 1))⟩] [2, 3])
    .ret)
    .skip))
  (.seq (.seq (.rg [⟨(some 76), none, .mv (.t 8)⟩,
      ⟨(some 77), none, .bin .leq (.t 76) (.c (.int .i64 3))⟩] [0, 5, 10, 11, 77])
  (.cond (.t 77)
    (.seq (.rg [⟨(some 78), none, .mv (.t 5)⟩,
        ⟨(some 79), none, .bin .and (.t 78) (.c (.int .u8 15))⟩,
        ⟨(some 80), none, .cvi .i32 (.t 79)⟩,
        ⟨(some 81), none, .bin .shl (.t 80) (.c (.int .u64 12))⟩,
        ⟨(some 82), none, .mv (.t 10)⟩,
        ⟨(some 83), none, .bin .and (.t 82) (.c (.int .u8 63))⟩,
        ⟨(some 84), none, .cvi .i32 (.t 83)⟩,
        ⟨(some 85), none, .bin .shl (.t 84) (.c (.int .u64 6))⟩,
        ⟨(some 86), none, .bin .or (.t 81) (.t 85)⟩,
        ⟨(some 87), none, .mv (.t 11)⟩,
        ⟨(some 88), none, .bin .and (.t 87) (.c (.int .u8 63))⟩,
        ⟨(some 89), none, .cvi .i32 (.t 88)⟩,
        ⟨(some 90), none, .bin .or (.t 86) (.t 89)⟩,
        ⟨(some 2), none, .mv (.t 90)⟩,
        ⟨(some 3), none, .mv (.c (.int .i64 3))⟩] [2, 3])
    .ret)
    .skip))
  (.seq (.rg [⟨(some 91), none, .mv (.t 0)⟩,
      ⟨(some 92), none, .ist (.t 91) (.c (.int .i64 3))⟩,
      ⟨(some 12), none, .mv (.t 92)⟩] [5, 10, 11, 12])
  (.seq (.seq (.rg [⟨(some 93), none, .mv (.t 12)⟩,
      ⟨(some 94), none, .bin .lss (.t 93) (.c (.int .u8 128))⟩,
      ⟨(some 95), none, .mv (.t 94)⟩,
      ⟨(some 96), some (95, false), .mv (.t 12)⟩,
      ⟨(some 97), some (95, false), .bin .lss (.c (.int .u8 191)) (.t 96)⟩,
      ⟨(some 98), none, .pick (.t 95) (.c (.bool true)) (.t 97)⟩] [5, 10, 11, 12, 98])
  (.cond (.t 98)
    (.seq (.rg [⟨(some 2), none, .mv (.c (.int .i32 65533))⟩,
        ⟨(some 3), none, .mv (.c (.int .i64 1))⟩] [2, 3])
    .ret)
    .skip))
  (.seq (.rg [⟨(some 99), none, .mv (.t 5)⟩,
      ⟨(some 100), none, .bin .and (.t 99) (.c (.int .u8 7))⟩,
      ⟨(some 101), none, .cvi .i32 (.t 100)⟩,
      ⟨(some 102), none, .bin .shl (.t 101) (.c (.int .u64 18))⟩,
      ⟨(some 103), none, .mv (.t 10)⟩,
      ⟨(some 104), none, .bin .and (.t 103) (.c (.int .u8 63))⟩,
      ⟨(some 105), none, .cvi .i32 (.t 104)⟩,
      ⟨(some 106), none, .bin .shl (.t 105) (.c (.int .u64 12))⟩,
      ⟨(some 107), none, .bin .or (.t 102) (.t 106)⟩,
      ⟨(some 108), none, .mv (.t 11)⟩,
      ⟨(some 109), none, .bin .and (.t 108) (.c (.int .u8 63))⟩,
      ⟨(some 110), none, .cvi .i32 (.t 109)⟩,
      ⟨(some 111), none, .bin .shl (.t 110) (.c (.int .u64 6))⟩,
      ⟨(some 112), none, .bin .or (.t 107) (.t 111)⟩,
      ⟨(some 113), none, .mv (.t 12)⟩,
      ⟨(some 114), none, .bin .and (.t 113) (.c (.int .u8 63))⟩,
      ⟨(some 115), none, .cvi .i32 (.t 114)⟩,
      ⟨(some 116), none, .bin .or (.t 112) (.t 115)⟩,
      ⟨(some 2), none, .mv (.t 116)⟩,
      ⟨(some 3), none, .mv (.c (.int .i64 4))⟩] [2, 3])
  .ret)))))))))))))))))),
  [.t 2, .t 3]⟩

/- strings.IndexRune -/
def an96 : Ann := [[0, 1, 4], [0, 1, 4, 160], [2], [4], [0, 1, 4, 171], [175], [175], [175, 176, 177], [5, 6, 175], [5, 175, 181], [4], [4], [2], [4, 183], [4]]
def fn96B0 : Cd :=
  (.seq .bad
  (.seq (.cond (.t 177)
    .skip
    (.exit 9))
  (.block 10
    (.seq (.rg [⟨(some 178), none, .ext (.t 176) 1⟩,
        ⟨(some 179), none, .ext (.t 176) 2⟩,
        ⟨(some 5), none, .mv (.t 178)⟩,
        ⟨(some 6), none, .mv (.t 179)⟩] [5, 6, 175])
    (.seq (.rg [⟨(some 180), none, .mv (.t 6)⟩,
        ⟨(some 181), none, .bin .eql (.t 180) (.c (.int .i32 65533))⟩] [5, 175, 181])
    (.cond (.t 181)
      (.seq (.rg [⟨(some 182), none, .mv (.t 5)⟩,
          ⟨(some 4), none, .mv (.t 182)⟩] [4])
      .ret)
      .skip))))))
def fn96L0 : Cd := .loop [175] fn96B0
def fn96 : Vs.Fn := ⟨2,
  (.seq (.rg [⟨(some 4), none, .mv (.c (.int .i64 0))⟩] [0, 1, 4])
  (.block 0
    (.seq (.rg [⟨(some 161), none, .mv (.t 1)⟩,
        ⟨(some 162), none, .bin .leq (.c (.int .i32 0)) (.t 161)⟩,
        ⟨(some 163), none, .mv (.t 162)⟩,
        ⟨(some 164), some (163, true), .mv (.t 1)⟩,
        ⟨(some 165), some (163, true), .bin .lss (.t 164) (.c (.int .i32 128))⟩,
        ⟨(some 166), none, .pick (.t 163) (.t 165) (.c (.bool false))⟩,
        ⟨(some 160), none, .mv (.t 166)⟩] [0, 1, 4, 160])
    (.cond (.t 160)
      (.seq (.rg [⟨(some 167), none, .mv (.t 0)⟩,
          ⟨(some 168), none, .mv (.t 1)⟩,
          ⟨(some 169), none, .cvi .u8 (.t 168)⟩,
          ⟨(some 170), none, .call 2 (.f 64) [(.t 167), (.t 169)]⟩,
          ⟨(some 4), none, .mv (.t 170)⟩] [4])
      .ret)
      (.seq (.rg [⟨(some 172), none, .mv (.t 1)⟩,
          ⟨(some 173), none, .bin .eql (.t 172) (.c (.int .i32 65533))⟩,
          ⟨(some 171), none, .mv (.t 173)⟩] [0, 1, 4, 171])
      (.cond (.t 171)
        (.seq (.seq .bad
        (.block 9
          fn96L0))
        (.seq (.rg [⟨(some 4), none, .mv (.c (.int .i64 (-1)))⟩] [4])
        .ret))
        (.seq (.rg [⟨(some 184), none, .mv (.t 1)⟩,
            ⟨(some 185), none, .call 2 (.f 98) [(.t 184)]⟩,
            ⟨(some 186), none, .un .not (.t 185)⟩,
            ⟨(some 183), none, .mv (.t 186)⟩] [4, 183])
        (.cond (.t 183)
          (.seq (.rg [⟨(some 4), none, .mv (.c (.int .i64 (-1)))⟩] [4])
          .ret)
          .bad)))))))),
  [.t 4]⟩

/- unicode/utf8.RuneStart -/
def an97 : Ann := [[0], [2]]
def fn97 : Vs.Fn := ⟨1,
  (.seq (.rg [⟨(some 2), none, .mv (.c (.bool false))⟩] [0])
  (.seq (.rg [⟨(some 3), none, .mv (.t 0)⟩,
      ⟨(some 4), none, .bin .and (.t 3) (.c (.int .u8 192))⟩,
      ⟨(some 5), none, .bin .neq (.t 4) (.c (.int .u8 128))⟩,
      ⟨(some 2), none, .mv (.t 5)⟩] [2])
  .ret)),
  [.t 2]⟩

/- unicode/utf8.ValidRune -/
def an98 : Ann := [[0], [0, 3], [2], [10], [2], [2]]
def fn98 : Vs.Fn := ⟨1,
  (.seq (.rg [⟨(some 2), none, .mv (.c (.bool false))⟩] [0])
  (.seq (.block 0
    (.seq (.rg [⟨(some 4), none, .mv (.t 0)⟩,
        ⟨(some 5), none, .bin .leq (.c (.int .i32 0)) (.t 4)⟩,
        ⟨(some 6), none, .mv (.t 5)⟩,
        ⟨(some 7), some (6, true), .mv (.t 0)⟩,
        ⟨(some 8), some (6, true), .bin .lss (.t 7) (.c (.int .i32 55296))⟩,
        ⟨(some 9), none, .pick (.t 6) (.t 8) (.c (.bool false))⟩,
        ⟨(some 3), none, .mv (.t 9)⟩] [0, 3])
    (.cond (.t 3)
      (.seq (.rg [⟨(some 2), none, .mv (.c (.bool true))⟩] [2])
      .ret)
      (.seq (.rg [⟨(some 11), none, .mv (.t 0)⟩,
          ⟨(some 12), none, .bin .lss (.c (.int .i32 57343)) (.t 11)⟩,
          ⟨(some 13), none, .mv (.t 12)⟩,
          ⟨(some 14), some (13, true), .mv (.t 0)⟩,
          ⟨(some 15), some (13, true), .bin .leq (.t 14) (.c (.int .i32 1114111))⟩,
          ⟨(some 16), none, .pick (.t 13) (.t 15) (.c (.bool false))⟩,
          ⟨(some 10), none, .mv (.t 16)⟩] [10])
      (.cond (.t 10)
        (.seq (.rg [⟨(some 2), none, .mv (.c (.bool true))⟩] [2])
        .ret)
        .skip)))))
  (.seq (.rg [⟨(some 2), none, .mv (.c (.bool false))⟩] [2])
  .ret))),
  [.t 2]⟩

/- internal/bytealg.Cutover -/
def an99 : Ann := [[0], [2]]
def fn99 : Vs.Fn := ⟨1,
  (.seq (.rg [⟨(some 2), none, .mv (.c (.int .i64 0))⟩] [0])
  (.seq (.rg [⟨(some 3), none, .mv (.t 0)⟩,
      ⟨(some 4), none, .bin .add (.t 3) (.c (.int .i64 16))⟩,
      ⟨(some 5), none, .bin .quo (.t 4) (.c (.int .i64 8))⟩,
      ⟨(some 2), none, .mv (.t 5)⟩] [2])
  .ret)),
  [.t 2]⟩

def pg : Pg := fun f => match f with
  | 3 => some fn3
  | 4 => some fn4
  | 6 => some fn6
  | 7 => some fn7
  | 8 => some fn8
  | 9 => some fn9
  | 10 => some fn10
  | 11 => some fn11
  | 12 => some fn12
  | 13 => some fn13
  | 14 => some fn14
  | 20 => some fn20
  | 21 => some fn21
  | 22 => some fn22
  | 23 => some fn23
  | 24 => some fn24
  | 25 => some fn25
  | 26 => some fn26
  | 27 => some fn27
  | 28 => some fn28
  | 29 => some fn29
  | 30 => some fn30
  | 31 => some fn31
  | 44 => some fn44
  | 45 => some fn45
  | 46 => some fn46
  | 47 => some fn47
  | 48 => some fn48
  | 49 => some fn49
  | 51 => some fn51
  | 52 => some fn52
  | 53 => some fn53
  | 54 => some fn54
  | 55 => some fn55
  | 62 => some fn62
  | 63 => some fn63
  | 64 => some fn64
  | 65 => some fn65
  | 66 => some fn66
  | 67 => some fn67
  | 68 => some fn68
  | 69 => some fn69
  | 70 => some fn70
  | 73 => some fn73
  | 74 => some fn74
  | 75 => some fn75
  | 76 => some fn76
  | 77 => some fn77
  | 78 => some fn78
  | 80 => some fn80
  | 81 => some fn81
  | 84 => some fn84
  | 85 => some fn85
  | 86 => some fn86
  | 87 => some fn87
  | 88 => some fn88
  | 89 => some fn89
  | 90 => some fn90
  | 91 => some fn91
  | 92 => some fn92
  | 93 => some fn93
  | 94 => some fn94
  | 95 => some fn95
  | 96 => some fn96
  | 97 => some fn97
  | 98 => some fn98
  | 99 => some fn99
  | _ => none

theorem cfn3 : cFn Tryd.prog an3 Tryd.f3 = some fn3 := by kernel_rfl
theorem cfn4 : cFn Tryd.prog an4 Tryd.f4 = some fn4 := by kernel_rfl
theorem cfn6 : cFn Tryd.prog an6 Tryd.f6 = some fn6 := by kernel_rfl
theorem cfn7 : cFn Tryd.prog an7 Tryd.f7 = some fn7 := by kernel_rfl
theorem cfn8 : cFn Tryd.prog an8 Tryd.f8 = some fn8 := by kernel_rfl
theorem cfn9 : cFn Tryd.prog an9 Tryd.f9 = some fn9 := by kernel_rfl
theorem cfn10 : cFn Tryd.prog an10 Tryd.f10 = some fn10 := by kernel_rfl
theorem cfn11 : cFn Tryd.prog an11 Tryd.f11 = some fn11 := by kernel_rfl
theorem cfn12 : cFn Tryd.prog an12 Tryd.f12 = some fn12 := by kernel_rfl
theorem cfn13 : cFn Tryd.prog an13 Tryd.f13 = some fn13 := by kernel_rfl
theorem cfn14 : cFn Tryd.prog an14 Tryd.f14 = some fn14 := by kernel_rfl
theorem cfn20 : cFn Tryd.prog an20 Tryd.f20 = some fn20 := by kernel_rfl
theorem cfn21 : cFn Tryd.prog an21 Tryd.f21 = some fn21 := by kernel_rfl
theorem cfn22 : cFn Tryd.prog an22 Tryd.f22 = some fn22 := by kernel_rfl
theorem cfn23 : cFn Tryd.prog an23 Tryd.f23 = some fn23 := by kernel_rfl
theorem cfn24 : cFn Tryd.prog an24 Tryd.f24 = some fn24 := by kernel_rfl
theorem cfn25 : cFn Tryd.prog an25 Tryd.f25 = some ⟨3, insCd 2 48 51 [.nsl, .nsl], [.t 6]⟩ := by kernel_rfl
theorem cfn26 : cFn Tryd.prog an26 Tryd.f26 = some fn26 := by kernel_rfl
theorem cfn27 : cFn Tryd.prog an27 Tryd.f27 = some fn27 := by kernel_rfl
theorem cfn28 : cFn Tryd.prog an28 Tryd.f28 = some fn28 := by kernel_rfl
theorem cfn29 : cFn Tryd.prog an29 Tryd.f29 = some fn29 := by kernel_rfl
theorem cfn30 : cFn Tryd.prog an30 Tryd.f30 = some fn30 := by kernel_rfl
theorem cfn31 : cFn Tryd.prog an31 Tryd.f31 = some fn31 := by kernel_rfl
theorem cfn44 : cFn Tryd.prog an44 Tryd.f44 = some fn44 := by kernel_rfl
theorem cfn45 : cFn Tryd.prog an45 Tryd.f45 = some fn45 := by kernel_rfl
theorem cfn46 : cFn Tryd.prog an46 Tryd.f46 = some fn46 := by kernel_rfl
theorem cfn47 : cFn Tryd.prog an47 Tryd.f47 = some fn47 := by kernel_rfl
theorem cfn48 : cFn Tryd.prog an48 Tryd.f48 = some fn48 := by kernel_rfl
theorem cfn49 : cFn Tryd.prog an49 Tryd.f49 = some fn49 := by kernel_rfl
theorem cfn51 : cFn Tryd.prog an51 Tryd.f51 = some fn51 := by kernel_rfl
theorem cfn52 : cFn Tryd.prog an52 Tryd.f52 = some fn52 := by kernel_rfl
theorem cfn53 : cFn Tryd.prog an53 Tryd.f53 = some fn53 := by kernel_rfl
theorem cfn54 : cFn Tryd.prog an54 Tryd.f54 = some fn54 := by kernel_rfl
theorem cfn55 : cFn Tryd.prog an55 Tryd.f55 = some fn55 := by kernel_rfl
theorem cfn62 : cFn Tryd.prog an62 Tryd.f62 = some fn62 := by kernel_rfl
theorem cfn63 : cFn Tryd.prog an63 Tryd.f63 = some fn63 := by kernel_rfl
theorem cfn64 : cFn Tryd.prog an64 Tryd.f64 = some fn64 := by kernel_rfl
theorem cfn65 : cFn Tryd.prog an65 Tryd.f65 = some fn65 := by kernel_rfl
theorem cfn66 : cFn Tryd.prog an66 Tryd.f66 = some fn66 := by kernel_rfl
theorem cfn67 : cFn Tryd.prog an67 Tryd.f67 = some fn67 := by kernel_rfl
theorem cfn68 : cFn Tryd.prog an68 Tryd.f68 = some fn68 := by kernel_rfl
theorem cfn69 : cFn Tryd.prog an69 Tryd.f69 = some fn69 := by kernel_rfl
theorem cfn70 : cFn Tryd.prog an70 Tryd.f70 = some fn70 := by kernel_rfl
theorem cfn73 : cFn Tryd.prog an73 Tryd.f73 = some fn73 := by kernel_rfl
theorem cfn74 : cFn Tryd.prog an74 Tryd.f74 = some fn74 := by kernel_rfl
theorem cfn75 : cFn Tryd.prog an75 Tryd.f75 = some fn75 := by kernel_rfl
theorem cfn76 : cFn Tryd.prog an76 Tryd.f76 = some fn76 := by kernel_rfl
theorem cfn77 : cFn Tryd.prog an77 Tryd.f77 = some fn77 := by kernel_rfl
theorem cfn78 : cFn Tryd.prog an78 Tryd.f78 = some fn78 := by kernel_rfl
theorem cfn80 : cFn Tryd.prog an80 Tryd.f80 = some fn80 := by kernel_rfl
theorem cfn81 : cFn Tryd.prog an81 Tryd.f81 = some fn81 := by kernel_rfl
theorem cfn84 : cFn Tryd.prog an84 Tryd.f84 = some fn84 := by kernel_rfl
theorem cfn85 : cFn Tryd.prog an85 Tryd.f85 = some fn85 := by kernel_rfl
theorem cfn86 : cFn Tryd.prog an86 Tryd.f86 = some fn86 := by kernel_rfl
theorem cfn87 : cFn Tryd.prog an87 Tryd.f87 = some fn87 := by kernel_rfl
theorem cfn88 : cFn Tryd.prog an88 Tryd.f88 = some fn88 := by kernel_rfl
theorem cfn89 : cFn Tryd.prog an89 Tryd.f89 = some fn89 := by kernel_rfl
theorem cfn90 : cFn Tryd.prog an90 Tryd.f90 = some fn90 := by kernel_rfl
theorem cfn91 : cFn Tryd.prog an91 Tryd.f91 = some fn91 := by kernel_rfl
theorem cfn92 : cFn Tryd.prog an92 Tryd.f92 = some fn92 := by kernel_rfl
theorem cfn93 : cFn Tryd.prog an93 Tryd.f93 = some fn93 := by kernel_rfl
theorem cfn94 : cFn Tryd.prog an94 Tryd.f94 = some fn94 := by kernel_rfl
theorem cfn95 : cFn Tryd.prog an95 Tryd.f95 = some fn95 := by kernel_rfl
theorem cfn96 : cFn Tryd.prog an96 Tryd.f96 = some fn96 := by kernel_rfl
theorem cfn97 : cFn Tryd.prog an97 Tryd.f97 = some fn97 := by kernel_rfl
theorem cfn98 : cFn Tryd.prog an98 Tryd.f98 = some fn98 := by kernel_rfl
theorem cfn99 : cFn Tryd.prog an99 Tryd.f99 = some fn99 := by kernel_rfl
theorem mixed : Tryd.prog.follows .mixedOrders = true := by kernel_rfl

theorem pgOk : PgOk Tryd.prog pg := by
  intro f fn h
  unfold pg at h
  split at h
  · cases h; exact .inl ⟨Tryd.f3, an3, Tryd.func3, of_decide_eq_true (by kernel_rfl), cfn3⟩
  · cases h; exact .inl ⟨Tryd.f4, an4, Tryd.func4, of_decide_eq_true (by kernel_rfl), cfn4⟩
  · cases h; exact .inl ⟨Tryd.f6, an6, Tryd.func6, of_decide_eq_true (by kernel_rfl), cfn6⟩
  · cases h; exact .inl ⟨Tryd.f7, an7, Tryd.func7, of_decide_eq_true (by kernel_rfl), cfn7⟩
  · cases h; exact .inl ⟨Tryd.f8, an8, Tryd.func8, of_decide_eq_true (by kernel_rfl), cfn8⟩
  · cases h; exact .inl ⟨Tryd.f9, an9, Tryd.func9, of_decide_eq_true (by kernel_rfl), cfn9⟩
  · cases h; exact .inl ⟨Tryd.f10, an10, Tryd.func10, of_decide_eq_true (by kernel_rfl), cfn10⟩
  · cases h; exact .inl ⟨Tryd.f11, an11, Tryd.func11, of_decide_eq_true (by kernel_rfl), cfn11⟩
  · cases h; exact .inl ⟨Tryd.f12, an12, Tryd.func12, of_decide_eq_true (by kernel_rfl), cfn12⟩
  · cases h; exact .inl ⟨Tryd.f13, an13, Tryd.func13, of_decide_eq_true (by kernel_rfl), cfn13⟩
  · cases h; exact .inl ⟨Tryd.f14, an14, Tryd.func14, of_decide_eq_true (by kernel_rfl), cfn14⟩
  · cases h; exact .inl ⟨Tryd.f20, an20, Tryd.func20, of_decide_eq_true (by kernel_rfl), cfn20⟩
  · cases h; exact .inl ⟨Tryd.f21, an21, Tryd.func21, of_decide_eq_true (by kernel_rfl), cfn21⟩
  · cases h; exact .inl ⟨Tryd.f22, an22, Tryd.func22, of_decide_eq_true (by kernel_rfl), cfn22⟩
  · cases h; exact .inl ⟨Tryd.f23, an23, Tryd.func23, of_decide_eq_true (by kernel_rfl), cfn23⟩
  · cases h; exact .inl ⟨Tryd.f24, an24, Tryd.func24, of_decide_eq_true (by kernel_rfl), cfn24⟩
  · cases h; exact .inr (insV_spec mixed ⟨Tryd.f25, an25, Tryd.func25, of_decide_eq_true (by kernel_rfl), cfn25⟩ (by decide) (by decide) rfl)
  · cases h; exact .inl ⟨Tryd.f26, an26, Tryd.func26, of_decide_eq_true (by kernel_rfl), cfn26⟩
  · cases h; exact .inl ⟨Tryd.f27, an27, Tryd.func27, of_decide_eq_true (by kernel_rfl), cfn27⟩
  · cases h; exact .inl ⟨Tryd.f28, an28, Tryd.func28, of_decide_eq_true (by kernel_rfl), cfn28⟩
  · cases h; exact .inl ⟨Tryd.f29, an29, Tryd.func29, of_decide_eq_true (by kernel_rfl), cfn29⟩
  · cases h; exact .inl ⟨Tryd.f30, an30, Tryd.func30, of_decide_eq_true (by kernel_rfl), cfn30⟩
  · cases h; exact .inl ⟨Tryd.f31, an31, Tryd.func31, of_decide_eq_true (by kernel_rfl), cfn31⟩
  · cases h; exact .inl ⟨Tryd.f44, an44, Tryd.func44, of_decide_eq_true (by kernel_rfl), cfn44⟩
  · cases h; exact .inl ⟨Tryd.f45, an45, Tryd.func45, of_decide_eq_true (by kernel_rfl), cfn45⟩
  · cases h; exact .inl ⟨Tryd.f46, an46, Tryd.func46, of_decide_eq_true (by kernel_rfl), cfn46⟩
  · cases h; exact .inl ⟨Tryd.f47, an47, Tryd.func47, of_decide_eq_true (by kernel_rfl), cfn47⟩
  · cases h; exact .inl ⟨Tryd.f48, an48, Tryd.func48, of_decide_eq_true (by kernel_rfl), cfn48⟩
  · cases h; exact .inl ⟨Tryd.f49, an49, Tryd.func49, of_decide_eq_true (by kernel_rfl), cfn49⟩
  · cases h; exact .inl ⟨Tryd.f51, an51, Tryd.func51, of_decide_eq_true (by kernel_rfl), cfn51⟩
  · cases h; exact .inl ⟨Tryd.f52, an52, Tryd.func52, of_decide_eq_true (by kernel_rfl), cfn52⟩
  · cases h; exact .inl ⟨Tryd.f53, an53, Tryd.func53, of_decide_eq_true (by kernel_rfl), cfn53⟩
  · cases h; exact .inl ⟨Tryd.f54, an54, Tryd.func54, of_decide_eq_true (by kernel_rfl), cfn54⟩
  · cases h; exact .inl ⟨Tryd.f55, an55, Tryd.func55, of_decide_eq_true (by kernel_rfl), cfn55⟩
  · cases h; exact .inl ⟨Tryd.f62, an62, Tryd.func62, of_decide_eq_true (by kernel_rfl), cfn62⟩
  · cases h; exact .inl ⟨Tryd.f63, an63, Tryd.func63, of_decide_eq_true (by kernel_rfl), cfn63⟩
  · cases h; exact .inl ⟨Tryd.f64, an64, Tryd.func64, of_decide_eq_true (by kernel_rfl), cfn64⟩
  · cases h; exact .inl ⟨Tryd.f65, an65, Tryd.func65, of_decide_eq_true (by kernel_rfl), cfn65⟩
  · cases h; exact .inl ⟨Tryd.f66, an66, Tryd.func66, of_decide_eq_true (by kernel_rfl), cfn66⟩
  · cases h; exact .inl ⟨Tryd.f67, an67, Tryd.func67, of_decide_eq_true (by kernel_rfl), cfn67⟩
  · cases h; exact .inl ⟨Tryd.f68, an68, Tryd.func68, of_decide_eq_true (by kernel_rfl), cfn68⟩
  · cases h; exact .inl ⟨Tryd.f69, an69, Tryd.func69, of_decide_eq_true (by kernel_rfl), cfn69⟩
  · cases h; exact .inl ⟨Tryd.f70, an70, Tryd.func70, of_decide_eq_true (by kernel_rfl), cfn70⟩
  · cases h; exact .inl ⟨Tryd.f73, an73, Tryd.func73, of_decide_eq_true (by kernel_rfl), cfn73⟩
  · cases h; exact .inl ⟨Tryd.f74, an74, Tryd.func74, of_decide_eq_true (by kernel_rfl), cfn74⟩
  · cases h; exact .inl ⟨Tryd.f75, an75, Tryd.func75, of_decide_eq_true (by kernel_rfl), cfn75⟩
  · cases h; exact .inl ⟨Tryd.f76, an76, Tryd.func76, of_decide_eq_true (by kernel_rfl), cfn76⟩
  · cases h; exact .inl ⟨Tryd.f77, an77, Tryd.func77, of_decide_eq_true (by kernel_rfl), cfn77⟩
  · cases h; exact .inl ⟨Tryd.f78, an78, Tryd.func78, of_decide_eq_true (by kernel_rfl), cfn78⟩
  · cases h; exact .inl ⟨Tryd.f80, an80, Tryd.func80, of_decide_eq_true (by kernel_rfl), cfn80⟩
  · cases h; exact .inl ⟨Tryd.f81, an81, Tryd.func81, of_decide_eq_true (by kernel_rfl), cfn81⟩
  · cases h; exact .inl ⟨Tryd.f84, an84, Tryd.func84, of_decide_eq_true (by kernel_rfl), cfn84⟩
  · cases h; exact .inl ⟨Tryd.f85, an85, Tryd.func85, of_decide_eq_true (by kernel_rfl), cfn85⟩
  · cases h; exact .inl ⟨Tryd.f86, an86, Tryd.func86, of_decide_eq_true (by kernel_rfl), cfn86⟩
  · cases h; exact .inl ⟨Tryd.f87, an87, Tryd.func87, of_decide_eq_true (by kernel_rfl), cfn87⟩
  · cases h; exact .inl ⟨Tryd.f88, an88, Tryd.func88, of_decide_eq_true (by kernel_rfl), cfn88⟩
  · cases h; exact .inl ⟨Tryd.f89, an89, Tryd.func89, of_decide_eq_true (by kernel_rfl), cfn89⟩
  · cases h; exact .inl ⟨Tryd.f90, an90, Tryd.func90, of_decide_eq_true (by kernel_rfl), cfn90⟩
  · cases h; exact .inl ⟨Tryd.f91, an91, Tryd.func91, of_decide_eq_true (by kernel_rfl), cfn91⟩
  · cases h; exact .inl ⟨Tryd.f92, an92, Tryd.func92, of_decide_eq_true (by kernel_rfl), cfn92⟩
  · cases h; exact .inl ⟨Tryd.f93, an93, Tryd.func93, of_decide_eq_true (by kernel_rfl), cfn93⟩
  · cases h; exact .inl ⟨Tryd.f94, an94, Tryd.func94, of_decide_eq_true (by kernel_rfl), cfn94⟩
  · cases h; exact .inl ⟨Tryd.f95, an95, Tryd.func95, of_decide_eq_true (by kernel_rfl), cfn95⟩
  · cases h; exact .inl ⟨Tryd.f96, an96, Tryd.func96, of_decide_eq_true (by kernel_rfl), cfn96⟩
  · cases h; exact .inl ⟨Tryd.f97, an97, Tryd.func97, of_decide_eq_true (by kernel_rfl), cfn97⟩
  · cases h; exact .inl ⟨Tryd.f98, an98, Tryd.func98, of_decide_eq_true (by kernel_rfl), cfn98⟩
  · cases h; exact .inl ⟨Tryd.f99, an99, Tryd.func99, of_decide_eq_true (by kernel_rfl), cfn99⟩
  · cases h
end Go.Proofs.YtnfddeiegbifhaaDoor
