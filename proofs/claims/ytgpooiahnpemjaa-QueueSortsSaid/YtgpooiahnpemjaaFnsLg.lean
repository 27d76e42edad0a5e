import Derived.Test.YtgpooiahnpemjaaChecked
import Derived.Test.YtgpooiahnpemjaaVsLim
namespace Go.Proofs.Ytgpooiahnpemjaa
open Go Go.Vs
set_option maxRecDepth 100000

/- spillway/spillwaylaw23.QueueGone -/
def an3 : Ann := [[0, 1], [2], [0, 1, 14], [4], [0, 1, 17], [4], [0], [0, 1, 5], [0, 1, 5, 6], [0, 1, 5, 6, 7], [0, 1, 5, 6, 7], [0, 1, 5, 6, 7, 23], [0], [0, 1, 5, 6, 7, 30], [4], [0, 1, 5, 6, 7, 44], [0, 1, 5, 6, 7, 8], [0], [0, 1, 5, 6, 7, 8, 58], [4], [0, 1, 5, 6, 7], [2], [0, 1, 5, 6, 7, 9], [0, 1, 5, 6, 7, 9, 66], [4], [0, 1, 5, 6, 7, 9, 10], [0, 1, 5, 6, 7, 9, 10], [0, 1, 5, 6, 7, 9, 10, 70], [0, 1, 5, 6, 7, 9, 10, 107], [4], [0, 1, 5, 6, 7, 9, 10], [2], [0, 1, 5, 6, 7, 9, 11], [0, 1, 5, 6, 7, 9, 11, 12], [0, 1, 5, 6, 7, 9, 11, 12], [0, 1, 5, 6, 7, 9, 11, 12, 115], [2], [0, 1, 5, 6, 7, 9, 11, 12, 140], [4], [0, 1, 5, 6, 7, 9, 11, 12], [0, 1, 5, 6, 7, 164], [4], [0, 1, 5, 6, 7], [4]]
def fn3B0 : Cd :=
  (.seq (.seq (.rg [⟨(some 67), none, .mv (.t 10)⟩,
      ⟨(some 68), none, .mv (.t 9)⟩,
      ⟨(some 69), none, .len false (.t 68)⟩,
      ⟨(some 70), none, .bin .lss (.t 67) (.t 69)⟩] [0, 1, 5, 6, 7, 9, 10, 70])
  (.cond (.t 70)
    .skip
    (.exit 2)))
  (.seq (.block 3
    (.seq (.rg [⟨(some 73), none, .mv (.t 9)⟩,
        ⟨(some 74), none, .mv (.t 10)⟩,
        ⟨(some 75), none, .iad 4 (.t 73) (.t 74)⟩,
        ⟨(some 76), none, .fad 0 (.t 75)⟩,
        ⟨(some 77), none, .load false 1 (.t 76) false⟩,
        ⟨(some 78), none, .mv (.t 7)⟩,
        ⟨(some 79), none, .mv (.t 9)⟩,
        ⟨(some 80), none, .len false (.t 79)⟩,
        ⟨(some 81), none, .bin .sub (.t 78) (.t 80)⟩,
        ⟨(some 82), none, .bin .add (.t 81) (.c (.int .i64 1))⟩,
        ⟨(some 83), none, .mv (.t 10)⟩,
        ⟨(some 84), none, .bin .add (.t 82) (.t 83)⟩,
        ⟨(some 85), none, .bin .neq (.t 77) (.t 84)⟩,
        ⟨(some 86), none, .mv (.t 85)⟩,
        ⟨(some 87), some (86, false), .mv (.t 9)⟩,
        ⟨(some 88), some (86, false), .mv (.t 10)⟩,
        ⟨(some 89), some (86, false), .iad 4 (.t 87) (.t 88)⟩,
        ⟨(some 90), some (86, false), .fad 1 (.t 89)⟩,
        ⟨(some 91), some (86, false), .load false 1 (.t 90) false⟩,
        ⟨(some 92), some (86, false), .mv (.t 9)⟩,
        ⟨(some 93), some (86, false), .mv (.t 10)⟩,
        ⟨(some 94), some (86, false), .iad 4 (.t 92) (.t 93)⟩,
        ⟨(some 95), some (86, false), .fad 0 (.t 94)⟩,
        ⟨(some 96), some (86, false), .load false 1 (.t 95) false⟩,
        ⟨(some 97), some (86, false), .bin .neq (.t 91) (.t 96)⟩,
        ⟨(some 98), none, .pick (.t 86) (.c (.bool true)) (.t 97)⟩,
        ⟨(some 99), none, .mv (.t 98)⟩,
        ⟨(some 100), some (99, false), .mv (.t 9)⟩,
        ⟨(some 101), some (99, false), .mv (.t 10)⟩,
        ⟨(some 102), some (99, false), .iad 4 (.t 100) (.t 101)⟩,
        ⟨(some 103), some (99, false), .fad 0 (.t 102)⟩,
        ⟨(some 104), some (99, false), .load false 1 (.t 103) false⟩,
        ⟨(some 105), some (99, false), .mv (.t 6)⟩,
        ⟨(some 106), some (99, false), .bin .leq (.t 104) (.t 105)⟩,
        ⟨(some 107), none, .pick (.t 99) (.c (.bool true)) (.t 106)⟩] [0, 1, 5, 6, 7, 9, 10, 107])
    (.cond (.t 107)
      (.seq (.rg [⟨(some 4), none, .mv (.c (.bool false))⟩] [4])
      .ret)
      .skip)))
  (.rg [⟨(some 71), none, .mv (.t 10)⟩,
      ⟨(some 72), none, .bin .add (.t 71) (.c (.int .i64 1))⟩,
      ⟨(some 10), none, .mv (.t 72)⟩] [0, 1, 5, 6, 7, 9, 10])))
def fn3L0 : Cd := .loop [0, 1, 5, 6, 7, 9, 10] fn3B0
def fn3B1 : Cd :=
  (.seq (.seq (.rg [⟨(some 112), none, .mv (.t 12)⟩,
      ⟨(some 113), none, .mv (.t 11)⟩,
      ⟨(some 114), none, .len false (.t 113)⟩,
      ⟨(some 115), none, .bin .lss (.t 112) (.t 114)⟩] [0, 1, 5, 6, 7, 9, 11, 12, 115])
  (.cond (.t 115)
    .skip
    (.exit 4)))
  (.seq (.block 5
    (.seq (.rg [⟨(some 118), none, .mv (.t 11)⟩,
        ⟨(some 119), none, .mv (.t 12)⟩,
        ⟨(some 120), none, .iad 1 (.t 118) (.t 119)⟩,
        ⟨(some 121), none, .load false 1 (.t 120) false⟩,
        ⟨(some 122), none, .mv (.t 5)⟩,
        ⟨(some 123), none, .call 2 (.f 15) [(.t 122)]⟩,
        ⟨(some 124), none, .bin .geq (.t 121) (.t 123)⟩,
        ⟨(some 125), none, .mv (.t 124)⟩,
        ⟨(some 126), some (125, false), .mv (.t 12)⟩,
        ⟨(some 127), some (125, false), .bin .gtr (.t 126) (.c (.int .i64 0))⟩,
        ⟨(some 128), some (125, false), .mv (.t 127)⟩,
        ⟨(some 129), some (128, true), .mv (.t 11)⟩,
        ⟨(some 130), some (128, true), .mv (.t 12)⟩,
        ⟨(some 131), some (128, true), .iad 1 (.t 129) (.t 130)⟩,
        ⟨(some 132), some (128, true), .load false 1 (.t 131) false⟩,
        ⟨(some 133), some (128, true), .mv (.t 11)⟩,
        ⟨(some 134), some (128, true), .mv (.t 12)⟩,
        ⟨(some 135), some (128, true), .bin .sub (.t 134) (.c (.int .i64 1))⟩,
        ⟨(some 136), some (128, true), .iad 1 (.t 133) (.t 135)⟩,
        ⟨(some 137), some (128, true), .load false 1 (.t 136) false⟩,
        ⟨(some 138), some (128, true), .bin .leq (.t 132) (.t 137)⟩,
        ⟨(some 139), some (125, false), .pick (.t 128) (.t 138) (.c (.bool false))⟩,
        ⟨(some 140), none, .pick (.t 125) (.c (.bool true)) (.t 139)⟩] [0, 1, 5, 6, 7, 9, 11, 12, 140])
    (.cond (.t 140)
      (.seq (.rg [⟨(some 4), none, .mv (.c (.bool false))⟩] [4])
      .ret)
      .skip)))
  (.rg [⟨(some 116), none, .mv (.t 12)⟩,
      ⟨(some 117), none, .bin .add (.t 116) (.c (.int .i64 1))⟩,
      ⟨(some 12), none, .mv (.t 117)⟩] [0, 1, 5, 6, 7, 9, 11, 12])))
def fn3L1 : Cd := .loop [0, 1, 5, 6, 7, 9, 11, 12] fn3B1
def fn3B2 : Cd :=
  (.seq (.seq (.rg [⟨(some 19), none, .mv (.t 7)⟩,
      ⟨(some 20), none, .mv (.t 0)⟩,
      ⟨(some 21), none, .bin .rem (.t 20) (.c (.int .u8 60))⟩,
      ⟨(some 22), none, .cvi .i64 (.t 21)⟩,
      ⟨(some 23), none, .bin .leq (.t 19) (.t 22)⟩] [0, 1, 5, 6, 7, 23])
  (.cond (.t 23)
    .skip
    (.exit 0)))
  (.seq (.block 1
    (.seq (.seq (.rg [⟨(some 26), none, .mv (.t 5)⟩,
        ⟨(some 27), none, .mv (.t 7)⟩,
        ⟨(some 28), none, .call 0 (.f 11) [(.t 26), (.t 27), (.c (.string ⟨#[103]⟩)), (.c (.slice none 0 0))]⟩,
        ⟨(some 29), none, .mv (.t 7)⟩,
        ⟨(some 30), none, .bin .neq (.t 28) (.t 29)⟩] [0, 1, 5, 6, 7, 30])
    (.cond (.t 30)
      (.seq (.rg [⟨(some 4), none, .mv (.c (.bool false))⟩] [4])
      .ret)
      .skip))
    (.seq (.seq (.rg [⟨(some 31), none, .mv (.t 7)⟩,
        ⟨(some 32), none, .bin .sub (.t 31) (.c (.int .i64 1))⟩,
        ⟨(some 33), none, .mv (.t 1)⟩,
        ⟨(some 34), none, .len false (.t 33)⟩,
        ⟨(some 35), none, .bin .lss (.t 32) (.t 34)⟩,
        ⟨(some 36), none, .mv (.t 35)⟩,
        ⟨(some 37), some (36, true), .mv (.t 1)⟩,
        ⟨(some 38), some (36, true), .mv (.t 7)⟩,
        ⟨(some 39), some (36, true), .bin .sub (.t 38) (.c (.int .i64 1))⟩,
        ⟨(some 40), some (36, true), .iad 1 (.t 37) (.t 39)⟩,
        ⟨(some 41), some (36, true), .load false 1 (.t 40) false⟩,
        ⟨(some 42), some (36, true), .bin .rem (.t 41) (.c (.int .u8 3))⟩,
        ⟨(some 43), some (36, true), .bin .eql (.t 42) (.c (.int .u8 0))⟩,
        ⟨(some 44), none, .pick (.t 36) (.t 43) (.c (.bool false))⟩] [0, 1, 5, 6, 7, 44])
    (.cond (.t 44)
      (.seq (.rg [⟨(some 45), none, .mv (.t 1)⟩,
          ⟨(some 46), none, .mv (.t 7)⟩,
          ⟨(some 47), none, .bin .sub (.t 46) (.c (.int .i64 1))⟩,
          ⟨(some 48), none, .iad 1 (.t 45) (.t 47)⟩,
          ⟨(some 49), none, .load false 1 (.t 48) false⟩,
          ⟨(some 50), none, .cvi .i64 (.t 49)⟩,
          ⟨(some 51), none, .bin .quo (.t 50) (.c (.int .i64 3))⟩,
          ⟨(some 52), none, .mv (.t 7)⟩,
          ⟨(some 53), none, .bin .add (.t 52) (.c (.int .i64 1))⟩,
          ⟨(some 54), none, .bin .rem (.t 51) (.t 53)⟩,
          ⟨(some 8), none, .mv (.t 54)⟩] [0, 1, 5, 6, 7, 8])
      (.seq (.seq (.rg [⟨(some 55), none, .mv (.t 5)⟩,
          ⟨(some 56), none, .mv (.t 8)⟩,
          ⟨(some 57), none, .call 0 (.f 12) [(.t 55), (.t 56)]⟩,
          ⟨(some 58), none, .bin .neq (.t 57) (.c (.int .i64 0))⟩] [0, 1, 5, 6, 7, 8, 58])
      (.cond (.t 58)
        (.seq (.rg [⟨(some 4), none, .mv (.c (.bool false))⟩] [4])
        .ret)
        .skip))
      (.rg [⟨(some 59), none, .mv (.t 6)⟩,
          ⟨(some 60), none, .mv (.t 8)⟩,
          ⟨(some 61), none, .mx [(.t 59), (.t 60)]⟩,
          ⟨(some 6), none, .mv (.t 61)⟩] [0, 1, 5, 6, 7])))
      .skip))
    (.seq (.rg [⟨(some 62), none, .mv (.t 5)⟩,
        ⟨(some 63), none, .call 2 (.f 13) [(.t 62)]⟩,
        ⟨(some 9), none, .mv (.t 63)⟩] [0, 1, 5, 6, 7, 9])
    (.seq (.seq (.rg [⟨(some 64), none, .mv (.t 9)⟩,
        ⟨(some 65), none, .len false (.t 64)⟩,
        ⟨(some 66), none, .bin .gtr (.t 65) (.c (.int .i64 6))⟩] [0, 1, 5, 6, 7, 9, 66])
    (.cond (.t 66)
      (.seq (.rg [⟨(some 4), none, .mv (.c (.bool false))⟩] [4])
      .ret)
      .skip))
    (.seq (.seq (.rg [⟨(some 10), none, .mv (.c (.int .i64 0))⟩] [0, 1, 5, 6, 7, 9, 10])
    (.block 2
      fn3L0))
    (.seq (.rg [⟨(some 108), none, .mv (.t 5)⟩,
        ⟨(some 109), none, .nilck (.t 108)⟩,
        ⟨(some 110), none, .fad 0 (.t 109)⟩,
        ⟨(some 111), none, .call 2 (.f 14) [(.t 110)]⟩,
        ⟨(some 11), none, .mv (.t 111)⟩] [0, 1, 5, 6, 7, 9, 11])
    (.seq (.seq (.rg [⟨(some 12), none, .mv (.c (.int .i64 0))⟩] [0, 1, 5, 6, 7, 9, 11, 12])
    (.block 4
      fn3L1))
    (.seq (.rg [⟨(some 141), none, .mv (.t 7)⟩,
        ⟨(some 142), none, .mv (.t 9)⟩,
        ⟨(some 143), none, .len false (.t 142)⟩,
        ⟨(some 144), none, .bin .sub (.t 141) (.t 143)⟩,
        ⟨(some 145), none, .mv (.t 6)⟩,
        ⟨(some 146), none, .bin .gtr (.t 144) (.t 145)⟩,
        ⟨(some 147), none, .mv (.t 146)⟩,
        ⟨(some 148), some (147, true), .mv (.t 11)⟩,
        ⟨(some 149), some (147, true), .len false (.t 148)⟩,
        ⟨(some 150), some (147, true), .bin .eql (.t 149) (.c (.int .i64 0))⟩,
        ⟨(some 151), some (147, true), .mv (.t 150)⟩,
        ⟨(some 152), some (151, false), .mv (.t 11)⟩,
        ⟨(some 153), some (151, false), .mv (.t 11)⟩,
        ⟨(some 154), some (151, false), .len false (.t 153)⟩,
        ⟨(some 155), some (151, false), .bin .sub (.t 154) (.c (.int .i64 1))⟩,
        ⟨(some 156), some (151, false), .iad 1 (.t 152) (.t 155)⟩,
        ⟨(some 157), some (151, false), .load false 1 (.t 156) false⟩,
        ⟨(some 158), some (151, false), .mv (.t 7)⟩,
        ⟨(some 159), some (151, false), .mv (.t 9)⟩,
        ⟨(some 160), some (151, false), .len false (.t 159)⟩,
        ⟨(some 161), some (151, false), .bin .sub (.t 158) (.t 160)⟩,
        ⟨(some 162), some (151, false), .bin .neq (.t 157) (.t 161)⟩,
        ⟨(some 163), some (147, true), .pick (.t 151) (.c (.bool true)) (.t 162)⟩,
        ⟨(some 164), none, .pick (.t 147) (.t 163) (.c (.bool false))⟩] [0, 1, 5, 6, 7, 164])
    (.cond (.t 164)
      (.seq (.rg [⟨(some 4), none, .mv (.c (.bool false))⟩] [4])
      .ret)
      .skip))))))))))
  (.rg [⟨(some 24), none, .mv (.t 7)⟩,
      ⟨(some 25), none, .bin .add (.t 24) (.c (.int .i64 1))⟩,
      ⟨(some 7), none, .mv (.t 25)⟩] [0, 1, 5, 6, 7])))
def fn3L2 : Cd := .loop [0, 1, 5, 6, 7] fn3B2
def fn3 : Vs.Fn := ⟨2,
  (.seq (.rg [⟨(some 4), none, .mv (.c (.bool false))⟩] [0, 1])
  (.seq (.seq (.rg [⟨(some 13), none, .call 2 (.f 9) []⟩,
      ⟨(some 14), none, .un .not (.t 13)⟩] [0, 1, 14])
  (.cond (.t 14)
    (.seq (.rg [⟨(some 4), none, .mv (.c (.bool false))⟩] [4])
    .ret)
    .skip))
  (.seq (.seq (.rg [⟨(some 15), none, .mv (.t 1)⟩,
      ⟨(some 16), none, .len false (.t 15)⟩,
      ⟨(some 17), none, .bin .gtr (.t 16) (.c (.int .i64 60))⟩] [0, 1, 17])
  (.cond (.t 17)
    (.seq (.rg [⟨(some 4), none, .mv (.c (.bool true))⟩] [4])
    .ret)
    .skip))
  (.seq (.rg [⟨(some 18), none, .call 0 (.f 10) []⟩,
      ⟨(some 5), none, .mv (.t 18)⟩] [0, 1, 5])
  (.seq (.rg [⟨(some 6), none, .mv (.c (.int .i64 0))⟩] [0, 1, 5, 6])
  (.seq (.seq (.rg [⟨(some 7), none, .mv (.c (.int .i64 1))⟩] [0, 1, 5, 6, 7])
  (.block 0
    fn3L2))
  (.seq (.rg [⟨(some 4), none, .mv (.c (.bool true))⟩] [4])
  .ret))))))),
  [.t 4]⟩

/- spillway/spillwaylaw23.QueueDrops -/
def an4 : Ann := [[0], [2], [0, 10], [2], [0], [0, 3], [3, 4], [3, 4, 5], [3, 4, 5], [3, 4, 5, 17], [0], [3, 4, 5], [3, 4, 5], [2], [3, 4, 6], [3, 4, 6, 7], [2], [2], [6, 7, 51], [2], [6, 7, 8], [6, 7, 8], [6, 7, 8, 55], [6, 7, 8, 69], [2], [6, 7, 8], [2]]
def fn4B0 : Cd :=
  (.seq (.seq (.rg [⟨(some 15), none, .mv (.t 5)⟩,
      ⟨(some 16), none, .mv (.t 4)⟩,
      ⟨(some 17), none, .bin .lss (.t 15) (.t 16)⟩] [3, 4, 5, 17])
  (.cond (.t 17)
    .skip
    (.exit 0)))
  (.seq (.block 1
    (.rg [⟨(some 20), none, .mv (.t 3)⟩,
        ⟨(some 21), none, .call 0 (.f 11) [(.t 20), (.c (.int .i64 1)), (.c (.string ⟨#[103]⟩)), (.c (.slice none 0 0))]⟩] [3, 4, 5]))
  (.rg [⟨(some 18), none, .mv (.t 5)⟩,
      ⟨(some 19), none, .bin .add (.t 18) (.c (.int .i64 1))⟩,
      ⟨(some 5), none, .mv (.t 19)⟩] [3, 4, 5])))
def fn4L0 : Cd := .loop [3, 4, 5] fn4B0
def fn4B1 : Cd :=
  (.seq (.seq (.rg [⟨(some 52), none, .mv (.t 8)⟩,
      ⟨(some 53), none, .mv (.t 6)⟩,
      ⟨(some 54), none, .len false (.t 53)⟩,
      ⟨(some 55), none, .bin .lss (.t 52) (.t 54)⟩] [6, 7, 8, 55])
  (.cond (.t 55)
    .skip
    (.exit 2)))
  (.seq (.block 3
    (.seq (.rg [⟨(some 58), none, .mv (.t 6)⟩,
        ⟨(some 59), none, .mv (.t 8)⟩,
        ⟨(some 60), none, .iad 1 (.t 58) (.t 59)⟩,
        ⟨(some 61), none, .load false 1 (.t 60) false⟩,
        ⟨(some 62), none, .mv (.t 7)⟩,
        ⟨(some 63), none, .mv (.t 6)⟩,
        ⟨(some 64), none, .len false (.t 63)⟩,
        ⟨(some 65), none, .bin .sub (.t 62) (.t 64)⟩,
        ⟨(some 66), none, .bin .add (.t 65) (.c (.int .i64 1))⟩,
        ⟨(some 67), none, .mv (.t 8)⟩,
        ⟨(some 68), none, .bin .add (.t 66) (.t 67)⟩,
        ⟨(some 69), none, .bin .neq (.t 61) (.t 68)⟩] [6, 7, 8, 69])
    (.cond (.t 69)
      (.seq (.rg [⟨(some 2), none, .mv (.c (.bool false))⟩] [2])
      .ret)
      .skip)))
  (.rg [⟨(some 56), none, .mv (.t 8)⟩,
      ⟨(some 57), none, .bin .add (.t 56) (.c (.int .i64 1))⟩,
      ⟨(some 8), none, .mv (.t 57)⟩] [6, 7, 8])))
def fn4L1 : Cd := .loop [6, 7, 8] fn4B1
def fn4 : Vs.Fn := ⟨1,
  (.seq (.rg [⟨(some 2), none, .mv (.c (.bool false))⟩] [0])
  (.seq (.seq (.rg [⟨(some 9), none, .call 2 (.f 9) []⟩,
      ⟨(some 10), none, .un .not (.t 9)⟩] [0, 10])
  (.cond (.t 10)
    (.seq (.rg [⟨(some 2), none, .mv (.c (.bool false))⟩] [2])
    .ret)
    .skip))
  (.seq (.rg [⟨(some 11), none, .call 0 (.f 10) []⟩,
      ⟨(some 3), none, .mv (.t 11)⟩] [0, 3])
  (.seq (.rg [⟨(some 12), none, .mv (.t 0)⟩,
      ⟨(some 13), none, .bin .rem (.t 12) (.c (.int .u16 1500))⟩,
      ⟨(some 14), none, .cvi .i64 (.t 13)⟩,
      ⟨(some 4), none, .mv (.t 14)⟩] [3, 4])
  (.seq (.seq (.rg [⟨(some 5), none, .mv (.c (.int .i64 0))⟩] [3, 4, 5])
  (.block 0
    fn4L0))
  (.seq (.rg [⟨(some 22), none, .mv (.t 3)⟩,
      ⟨(some 23), none, .nilck (.t 22)⟩,
      ⟨(some 24), none, .fad 0 (.t 23)⟩,
      ⟨(some 25), none, .call 2 (.f 14) [(.t 24)]⟩,
      ⟨(some 6), none, .mv (.t 25)⟩] [3, 4, 6])
  (.seq (.rg [⟨(some 26), none, .mv (.t 4)⟩,
      ⟨(some 27), none, .bin .sub (.t 26) (.c (.int .i64 6))⟩,
      ⟨(some 28), none, .mx [(.c (.int .i64 0)), (.t 27)]⟩,
      ⟨(some 7), none, .mv (.t 28)⟩] [3, 4, 6, 7])
  (.seq (.seq (.rg [⟨(some 29), none, .mv (.t 6)⟩,
      ⟨(some 30), none, .len false (.t 29)⟩,
      ⟨(some 31), none, .mv (.t 7)⟩,
      ⟨(some 32), none, .mn [(.t 31), (.c (.int .i64 1000))]⟩,
      ⟨(some 33), none, .bin .neq (.t 30) (.t 32)⟩,
      ⟨(some 34), none, .mv (.t 33)⟩,
      ⟨(some 35), some (34, false), .mv (.t 3)⟩,
      ⟨(some 36), some (34, false), .call 2 (.f 16) [(.t 35)]⟩,
      ⟨(some 37), some (34, false), .mv (.t 4)⟩,
      ⟨(some 38), some (34, false), .bin .add (.t 37) (.c (.int .i64 1))⟩,
      ⟨(some 39), some (34, false), .bin .neq (.t 36) (.t 38)⟩,
      ⟨(some 40), none, .pick (.t 34) (.c (.bool true)) (.t 39)⟩,
      ⟨(some 41), none, .mv (.t 40)⟩,
      ⟨(some 42), some (41, false), .mv (.t 3)⟩,
      ⟨(some 43), some (41, false), .call 2 (.f 15) [(.t 42)]⟩,
      ⟨(some 44), some (41, false), .mv (.t 7)⟩,
      ⟨(some 45), some (41, false), .bin .add (.t 44) (.c (.int .i64 1))⟩,
      ⟨(some 46), some (41, false), .bin .neq (.t 43) (.t 45)⟩,
      ⟨(some 47), some (41, false), .mv (.t 46)⟩,
      ⟨(some 48), some (47, true), .mv (.t 4)⟩,
      ⟨(some 49), some (47, true), .bin .gtr (.t 48) (.c (.int .i64 0))⟩,
      ⟨(some 50), some (41, false), .pick (.t 47) (.t 49) (.c (.bool false))⟩,
      ⟨(some 51), none, .pick (.t 41) (.c (.bool true)) (.t 50)⟩] [6, 7, 51])
  (.cond (.t 51)
    (.seq (.rg [⟨(some 2), none, .mv (.c (.bool false))⟩] [2])
    .ret)
    .skip))
  (.seq (.seq (.rg [⟨(some 8), none, .mv (.c (.int .i64 0))⟩] [6, 7, 8])
  (.block 2
    fn4L1))
  (.seq (.rg [⟨(some 2), none, .mv (.c (.bool true))⟩] [2])
  .ret)))))))))),
  [.t 2]⟩

/- spillway/spillwaylaw23.QueueAcks -/
def an5 : Ann := [[0, 1, 2], [2], [0, 1, 2, 14], [6], [0], [0, 1, 2, 7], [1, 2, 7, 8], [1, 2, 7, 8, 9], [1, 2, 7, 8, 9], [1, 2, 7, 8, 9, 21], [0], [1, 2, 7, 8, 9], [1, 2, 7, 8, 9], [0], [1, 2, 7, 8, 10], [2], [1, 2, 7, 8, 10, 11], [0], [1, 2, 7, 8, 10, 11, 12], [2], [2], [0], [2], [2], [6]]
def fn5B0 : Cd :=
  (.seq (.seq (.rg [⟨(some 19), none, .mv (.t 9)⟩,
      ⟨(some 20), none, .mv (.t 8)⟩,
      ⟨(some 21), none, .bin .lss (.t 19) (.t 20)⟩] [1, 2, 7, 8, 9, 21])
  (.cond (.t 21)
    .skip
    (.exit 0)))
  (.seq (.block 1
    (.rg [⟨(some 24), none, .mv (.t 7)⟩,
        ⟨(some 25), none, .call 0 (.f 11) [(.t 24), (.c (.int .i64 1)), (.c (.string ⟨#[103]⟩)), (.c (.slice none 0 0))]⟩] [1, 2, 7, 8, 9]))
  (.rg [⟨(some 22), none, .mv (.t 9)⟩,
      ⟨(some 23), none, .bin .add (.t 22) (.c (.int .i64 1))⟩,
      ⟨(some 9), none, .mv (.t 23)⟩] [1, 2, 7, 8, 9])))
def fn5L0 : Cd := .loop [1, 2, 7, 8, 9] fn5B0
def fn5 : Vs.Fn := ⟨3,
  (.seq (.rg [⟨(some 6), none, .mv (.c (.bool false))⟩] [0, 1, 2])
  (.seq (.seq (.rg [⟨(some 13), none, .call 2 (.f 9) []⟩,
      ⟨(some 14), none, .un .not (.t 13)⟩] [0, 1, 2, 14])
  (.cond (.t 14)
    (.seq (.rg [⟨(some 6), none, .mv (.c (.bool false))⟩] [6])
    .ret)
    .skip))
  (.seq (.rg [⟨(some 15), none, .call 0 (.f 10) []⟩,
      ⟨(some 7), none, .mv (.t 15)⟩] [0, 1, 2, 7])
  (.seq (.rg [⟨(some 16), none, .mv (.t 0)⟩,
      ⟨(some 17), none, .bin .rem (.t 16) (.c (.int .u8 20))⟩,
      ⟨(some 18), none, .cvi .i64 (.t 17)⟩,
      ⟨(some 8), none, .mv (.t 18)⟩] [1, 2, 7, 8])
  (.seq (.seq (.rg [⟨(some 9), none, .mv (.c (.int .i64 0))⟩] [1, 2, 7, 8, 9])
  (.block 0
    fn5L0))
  (.seq (.rg [⟨(some 26), none, .mv (.t 7)⟩,
      ⟨(some 27), none, .mv (.t 1)⟩,
      ⟨(some 28), none, .call 0 (.f 12) [(.t 26), (.t 27)]⟩,
      ⟨(some 10), none, .mv (.t 28)⟩] [1, 2, 7, 8, 10])
  (.seq (.rg [⟨(some 29), none, .mv (.t 7)⟩,
      ⟨(some 30), none, .call 2 (.f 15) [(.t 29)]⟩,
      ⟨(some 11), none, .mv (.t 30)⟩] [1, 2, 7, 8, 10, 11])
  (.seq (.rg [⟨(some 31), none, .mv (.t 7)⟩,
      ⟨(some 32), none, .mv (.t 2)⟩,
      ⟨(some 33), none, .call 0 (.f 12) [(.t 31), (.t 32)]⟩,
      ⟨(some 12), none, .mv (.t 33)⟩] [1, 2, 7, 8, 10, 11, 12])
  (.seq (.rg [⟨(some 34), none, .mv (.t 10)⟩,
      ⟨(some 35), none, .bin .eql (.t 34) (.c (.int .i64 0))⟩,
      ⟨(some 36), none, .mv (.t 1)⟩,
      ⟨(some 37), none, .mv (.t 8)⟩,
      ⟨(some 38), none, .bin .leq (.t 36) (.t 37)⟩,
      ⟨(some 39), none, .eqb false (.t 35) (.t 38)⟩,
      ⟨(some 40), none, .mv (.t 39)⟩,
      ⟨(some 41), some (40, true), .mv (.t 12)⟩,
      ⟨(some 42), some (40, true), .bin .eql (.t 41) (.c (.int .i64 0))⟩,
      ⟨(some 43), some (40, true), .mv (.t 2)⟩,
      ⟨(some 44), some (40, true), .mv (.t 8)⟩,
      ⟨(some 45), some (40, true), .bin .leq (.t 43) (.t 44)⟩,
      ⟨(some 46), some (40, true), .eqb false (.t 42) (.t 45)⟩,
      ⟨(some 47), none, .pick (.t 40) (.t 46) (.c (.bool false))⟩,
      ⟨(some 48), none, .mv (.t 47)⟩,
      ⟨(some 49), some (48, true), .mv (.t 10)⟩,
      ⟨(some 50), some (48, true), .bin .eql (.t 49) (.c (.int .i64 0))⟩,
      ⟨(some 51), some (48, true), .mv (.t 50)⟩,
      ⟨(some 52), some (51, false), .mv (.t 10)⟩,
      ⟨(some 53), some (51, false), .bin .eql (.t 52) (.c (.int .i64 230))⟩,
      ⟨(some 54), some (48, true), .pick (.t 51) (.c (.bool true)) (.t 53)⟩,
      ⟨(some 55), none, .pick (.t 48) (.t 54) (.c (.bool false))⟩,
      ⟨(some 56), none, .mv (.t 55)⟩,
      ⟨(some 57), some (56, true), .mv (.t 2)⟩,
      ⟨(some 58), some (56, true), .mv (.t 11)⟩,
      ⟨(some 59), some (56, true), .bin .geq (.t 57) (.t 58)⟩,
      ⟨(some 60), some (56, true), .mv (.t 59)⟩,
      ⟨(some 61), some (60, true), .mv (.t 2)⟩,
      ⟨(some 62), some (60, true), .mv (.t 8)⟩,
      ⟨(some 63), some (60, true), .bin .leq (.t 61) (.t 62)⟩,
      ⟨(some 64), some (56, true), .pick (.t 60) (.t 63) (.c (.bool false))⟩,
      ⟨(some 65), some (56, true), .mv (.t 64)⟩,
      ⟨(some 66), some (65, false), .mv (.t 7)⟩,
      ⟨(some 67), some (65, false), .call 2 (.f 15) [(.t 66)]⟩,
      ⟨(some 68), some (65, false), .mv (.t 11)⟩,
      ⟨(some 69), some (65, false), .bin .eql (.t 67) (.t 68)⟩,
      ⟨(some 70), some (56, true), .pick (.t 65) (.c (.bool true)) (.t 69)⟩,
      ⟨(some 71), none, .pick (.t 56) (.t 70) (.c (.bool false))⟩,
      ⟨(some 72), none, .mv (.t 71)⟩,
      ⟨(some 73), some (72, true), .mv (.t 2)⟩,
      ⟨(some 74), some (72, true), .mv (.t 8)⟩,
      ⟨(some 75), some (72, true), .bin .gtr (.t 73) (.t 74)⟩,
      ⟨(some 76), some (72, true), .mv (.t 75)⟩,
      ⟨(some 77), some (76, false), .mv (.t 2)⟩,
      ⟨(some 78), some (76, false), .mv (.t 11)⟩,
      ⟨(some 79), some (76, false), .bin .lss (.t 77) (.t 78)⟩,
      ⟨(some 80), some (72, true), .pick (.t 76) (.c (.bool true)) (.t 79)⟩,
      ⟨(some 81), some (72, true), .mv (.t 80)⟩,
      ⟨(some 82), some (81, false), .mv (.t 7)⟩,
      ⟨(some 83), some (81, false), .call 2 (.f 15) [(.t 82)]⟩,
      ⟨(some 84), some (81, false), .mv (.t 2)⟩,
      ⟨(some 85), some (81, false), .bin .add (.t 84) (.c (.int .i64 1))⟩,
      ⟨(some 86), some (81, false), .bin .eql (.t 83) (.t 85)⟩,
      ⟨(some 87), some (72, true), .pick (.t 81) (.c (.bool true)) (.t 86)⟩,
      ⟨(some 88), none, .pick (.t 72) (.t 87) (.c (.bool false))⟩,
      ⟨(some 89), none, .mv (.t 88)⟩,
      ⟨(some 90), some (89, true), .mv (.t 7)⟩,
      ⟨(some 91), some (89, true), .mv (.t 8)⟩,
      ⟨(some 92), some (89, true), .call 0 (.f 12) [(.t 90), (.t 91)]⟩,
      ⟨(some 93), some (89, true), .bin .eql (.t 92) (.c (.int .i64 0))⟩,
      ⟨(some 94), none, .pick (.t 89) (.t 93) (.c (.bool false))⟩,
      ⟨(some 95), none, .mv (.t 94)⟩,
      ⟨(some 96), some (95, true), .mv (.t 7)⟩,
      ⟨(some 97), some (95, true), .call 2 (.f 13) [(.t 96)]⟩,
      ⟨(some 98), some (95, true), .len false (.t 97)⟩,
      ⟨(some 99), some (95, true), .bin .eql (.t 98) (.c (.int .i64 0))⟩,
      ⟨(some 100), none, .pick (.t 95) (.t 99) (.c (.bool false))⟩,
      ⟨(some 101), none, .mv (.t 100)⟩,
      ⟨(some 102), some (101, true), .mv (.t 7)⟩,
      ⟨(some 103), some (101, true), .call 2 (.f 15) [(.t 102)]⟩,
      ⟨(some 104), some (101, true), .mv (.t 8)⟩,
      ⟨(some 105), some (101, true), .bin .add (.t 104) (.c (.int .i64 1))⟩,
      ⟨(some 106), some (101, true), .bin .eql (.t 103) (.t 105)⟩,
      ⟨(some 107), none, .pick (.t 101) (.t 106) (.c (.bool false))⟩,
      ⟨(some 6), none, .mv (.t 107)⟩] [6])
  .ret))))))))),
  [.t 6]⟩

/- spillway/spillwaylaw23.QueuePlays -/
def an6 : Ann := [[0], [2], [0, 9], [2], [0, 12], [2], [0], [0, 3, 4], [0, 3, 4, 5], [0, 3, 4, 5], [0, 3, 4, 5, 19], [0, 3, 4, 5, 6], [0, 3, 4, 5, 6, 29], [2], [0, 3, 4, 5, 6, 32], [0], [0], [0, 3, 4, 5, 49], [2], [0], [0], [0, 3, 4, 5, 58], [2], [2], [2], [2], [2], [2], [2], [2], [2], [0, 3, 4, 5, 92], [2], [0, 3, 4, 5], [0], [3, 4, 7], [0], [3, 4, 7], [2], [0], [3, 4], [2], [2], [2], [2], [2]]
def fn6B0 : Cd :=
  (.seq (.seq (.rg [⟨(some 16), none, .mv (.t 5)⟩,
      ⟨(some 17), none, .mv (.t 0)⟩,
      ⟨(some 18), none, .len false (.t 17)⟩,
      ⟨(some 19), none, .bin .lss (.t 16) (.t 18)⟩] [0, 3, 4, 5, 19])
  (.cond (.t 19)
    .skip
    (.exit 0)))
  (.seq (.block 1
    (.seq (.rg [⟨(some 22), none, .mv (.t 0)⟩,
        ⟨(some 23), none, .mv (.t 5)⟩,
        ⟨(some 24), none, .iad 5 (.t 22) (.t 23)⟩,
        ⟨(some 25), none, .load true 5 (.t 24) false⟩,
        ⟨(some 6), none, .alloc [(.int .i64 0), (.int .i64 0), (.str ⟨#[]⟩), .nsl, (.int .i64 0)]⟩,
        ⟨none, none, .store 5 (.t 6) (.t 25)⟩] [0, 3, 4, 5, 6])
    (.seq (.seq (.rg [⟨(some 26), none, .fad 3 (.t 6)⟩,
        ⟨(some 27), none, .load false 1 (.t 26) false⟩,
        ⟨(some 28), none, .len false (.t 27)⟩,
        ⟨(some 29), none, .bin .gtr (.t 28) (.c (.int .i64 12))⟩] [0, 3, 4, 5, 6, 29])
    (.cond (.t 29)
      (.seq (.rg [⟨(some 2), none, .mv (.c (.bool true))⟩] [2])
      .ret)
      .skip))
    (.seq (.seq (.rg [⟨(some 30), none, .fad 0 (.t 6)⟩,
        ⟨(some 31), none, .load false 1 (.t 30) false⟩,
        ⟨(some 32), none, .bin .leq (.t 31) (.c (.int .i64 3))⟩] [0, 3, 4, 5, 6, 32])
    (.cond (.t 32)
      (.seq (.rg [⟨(some 33), none, .mv (.t 3)⟩,
          ⟨(some 34), none, .fad 1 (.t 6)⟩,
          ⟨(some 35), none, .load false 1 (.t 34) false⟩,
          ⟨(some 36), none, .fad 2 (.t 6)⟩,
          ⟨(some 37), none, .load false 1 (.t 36) false⟩,
          ⟨(some 38), none, .fad 3 (.t 6)⟩,
          ⟨(some 39), none, .load false 1 (.t 38) false⟩,
          ⟨(some 40), none, .call 0 (.f 11) [(.t 33), (.t 35), (.t 37), (.t 39)]⟩,
          ⟨(some 41), none, .mv (.t 4)⟩,
          ⟨(some 42), none, .fad 1 (.t 6)⟩,
          ⟨(some 43), none, .load false 1 (.t 42) true⟩,
          ⟨(some 44), none, .fad 2 (.t 6)⟩,
          ⟨(some 45), none, .load false 1 (.t 44) true⟩,
          ⟨(some 46), none, .fad 3 (.t 6)⟩,
          ⟨(some 47), none, .load false 1 (.t 46) true⟩,
          ⟨(some 48), none, .call 0 (.f 17) [(.t 41), (.t 43), (.t 45), (.t 47)]⟩,
          ⟨(some 49), none, .bin .neq (.t 40) (.t 48)⟩] [0, 3, 4, 5, 49])
      (.cond (.t 49)
        (.seq (.rg [⟨(some 2), none, .mv (.c (.bool false))⟩] [2])
        .ret)
        .skip))
      (.seq (.rg [⟨(some 50), none, .mv (.t 3)⟩,
          ⟨(some 51), none, .fad 4 (.t 6)⟩,
          ⟨(some 52), none, .load false 1 (.t 51) false⟩,
          ⟨(some 53), none, .call 0 (.f 12) [(.t 50), (.t 52)]⟩,
          ⟨(some 54), none, .mv (.t 4)⟩,
          ⟨(some 55), none, .fad 4 (.t 6)⟩,
          ⟨(some 56), none, .load false 1 (.t 55) true⟩,
          ⟨(some 57), none, .call 0 (.f 18) [(.t 54), (.t 56)]⟩,
          ⟨(some 58), none, .bin .neq (.t 53) (.t 57)⟩] [0, 3, 4, 5, 58])
      (.cond (.t 58)
        (.seq (.rg [⟨(some 2), none, .mv (.c (.bool false))⟩] [2])
        .ret)
        .skip))))
    (.seq (.rg [⟨(some 59), none, .mv (.t 3)⟩,
        ⟨(some 60), none, .call 2 (.f 13) [(.t 59)]⟩,
        ⟨(some 61), none, .mv (.t 4)⟩,
        ⟨(some 62), none, .nilck (.t 61)⟩,
        ⟨(some 63), none, .fad 0 (.t 62)⟩,
        ⟨(some 64), none, .load false 1 (.t 63) false⟩,
        ⟨(some 65), none, .call 2 (.f 19) [(.t 60), (.t 64)]⟩,
        ⟨(some 66), none, .un .not (.t 65)⟩,
        ⟨(some 67), none, .mv (.t 66)⟩,
        ⟨(some 68), some (67, false), .mv (.t 3)⟩,
        ⟨(some 69), some (67, false), .call 2 (.f 15) [(.t 68)]⟩,
        ⟨(some 70), some (67, false), .mv (.t 4)⟩,
        ⟨(some 71), some (67, false), .call 2 (.f 20) [(.t 70)]⟩,
        ⟨(some 72), some (67, false), .bin .neq (.t 69) (.t 71)⟩,
        ⟨(some 73), none, .pick (.t 67) (.c (.bool true)) (.t 72)⟩,
        ⟨(some 74), none, .mv (.t 73)⟩,
        ⟨(some 75), some (74, false), .mv (.t 3)⟩,
        ⟨(some 76), some (74, false), .call 2 (.f 16) [(.t 75)]⟩,
        ⟨(some 77), some (74, false), .mv (.t 4)⟩,
        ⟨(some 78), some (74, false), .call 2 (.f 21) [(.t 77)]⟩,
        ⟨(some 79), some (74, false), .bin .neq (.t 76) (.t 78)⟩,
        ⟨(some 80), none, .pick (.t 74) (.c (.bool true)) (.t 79)⟩,
        ⟨(some 81), none, .mv (.t 80)⟩,
        ⟨(some 82), some (81, false), .mv (.t 3)⟩,
        ⟨(some 83), some (81, false), .nilck (.t 82)⟩,
        ⟨(some 84), some (81, false), .fad 0 (.t 83)⟩,
        ⟨(some 85), some (81, false), .call 2 (.f 14) [(.t 84)]⟩,
        ⟨(some 86), some (81, false), .mv (.t 4)⟩,
        ⟨(some 87), some (81, false), .nilck (.t 86)⟩,
        ⟨(some 88), some (81, false), .fad 2 (.t 87)⟩,
        ⟨(some 89), some (81, false), .load false 1 (.t 88) false⟩,
        ⟨(some 90), some (81, false), .call 2 (.f 22) [(.t 85), (.t 89)]⟩,
        ⟨(some 91), some (81, false), .un .not (.t 90)⟩,
        ⟨(some 92), none, .pick (.t 81) (.c (.bool true)) (.t 91)⟩] [0, 3, 4, 5, 92])
    (.cond (.t 92)
      (.seq (.rg [⟨(some 2), none, .mv (.c (.bool false))⟩] [2])
      .ret)
      .skip))))))
  (.rg [⟨(some 20), none, .mv (.t 5)⟩,
      ⟨(some 21), none, .bin .add (.t 20) (.c (.int .i64 1))⟩,
      ⟨(some 5), none, .mv (.t 21)⟩] [0, 3, 4, 5])))
def fn6L0 : Cd := .loop [0, 3, 4, 5] fn6B0
def fn6 : Vs.Fn := ⟨1,
  (.seq (.rg [⟨(some 2), none, .mv (.c (.bool false))⟩] [0])
  (.seq (.seq (.rg [⟨(some 8), none, .call 2 (.f 9) []⟩,
      ⟨(some 9), none, .un .not (.t 8)⟩] [0, 9])
  (.cond (.t 9)
    (.seq (.rg [⟨(some 2), none, .mv (.c (.bool false))⟩] [2])
    .ret)
    .skip))
  (.seq (.seq (.rg [⟨(some 10), none, .mv (.t 0)⟩,
      ⟨(some 11), none, .len false (.t 10)⟩,
      ⟨(some 12), none, .bin .gtr (.t 11) (.c (.int .i64 60))⟩] [0, 12])
  (.cond (.t 12)
    (.seq (.rg [⟨(some 2), none, .mv (.c (.bool true))⟩] [2])
    .ret)
    .skip))
  (.seq (.rg [⟨(some 13), none, .call 0 (.f 10) []⟩,
      ⟨(some 14), none, .build [.nsl, (.int .i64 0), .nsl, (.int .i64 0)] []⟩,
      ⟨(some 15), none, .box 4 (.t 14)⟩,
      ⟨(some 3), none, .mv (.t 13)⟩,
      ⟨(some 4), none, .mv (.t 15)⟩] [0, 3, 4])
  (.seq (.seq (.rg [⟨(some 5), none, .mv (.c (.int .i64 0))⟩] [0, 3, 4, 5])
  (.block 0
    fn6L0))
  (.seq (.rg [⟨(some 93), none, .mv (.t 3)⟩,
      ⟨(some 94), none, .call 0 (.f 23) [(.t 93)]⟩,
      ⟨(some 7), none, .mv (.t 94)⟩] [3, 4, 7])
  (.seq (.rg [⟨(some 95), none, .mv (.t 7)⟩,
      ⟨(some 96), none, .call 0 (.f 11) [(.t 95), (.c (.int .i64 1)), (.c (.string ⟨#[120]⟩)), (.c (.slice none 0 0))]⟩] [3, 4, 7])
  (.seq (.rg [⟨(some 97), none, .mv (.t 7)⟩,
      ⟨(some 98), none, .mv (.t 7)⟩,
      ⟨(some 99), none, .call 2 (.f 15) [(.t 98)]⟩,
      ⟨(some 100), none, .call 0 (.f 12) [(.t 97), (.t 99)]⟩] [3, 4])
  (.seq (.rg [⟨(some 101), none, .mv (.t 3)⟩,
      ⟨(some 102), none, .call 2 (.f 13) [(.t 101)]⟩,
      ⟨(some 103), none, .mv (.t 4)⟩,
      ⟨(some 104), none, .nilck (.t 103)⟩,
      ⟨(some 105), none, .fad 0 (.t 104)⟩,
      ⟨(some 106), none, .load false 1 (.t 105) false⟩,
      ⟨(some 107), none, .call 2 (.f 19) [(.t 102), (.t 106)]⟩,
      ⟨(some 108), none, .mv (.t 107)⟩,
      ⟨(some 109), some (108, true), .mv (.t 3)⟩,
      ⟨(some 110), some (108, true), .call 2 (.f 16) [(.t 109)]⟩,
      ⟨(some 111), some (108, true), .mv (.t 4)⟩,
      ⟨(some 112), some (108, true), .call 2 (.f 21) [(.t 111)]⟩,
      ⟨(some 113), some (108, true), .bin .eql (.t 110) (.t 112)⟩,
      ⟨(some 114), none, .pick (.t 108) (.t 113) (.c (.bool false))⟩,
      ⟨(some 2), none, .mv (.t 114)⟩] [2])
  .ret))))))))),
  [.t 2]⟩

/- spillway/spillwaylaw23.QueueTells -/
def an7 : Ann := [[2, 3], [2], [2, 3, 7], [4], [2, 3, 17], [4], [2, 3, 5], [2, 3, 5], [2, 3, 5, 22], [2, 3, 5, 32], [4], [2, 3, 5], [2], [2], [2], [2], [2], [4]]
def fn7B0 : Cd :=
  (.seq (.seq (.rg [⟨(some 18), none, .mv (.t 5)⟩,
      ⟨(some 19), none, .fad 3 (.t 2)⟩,
      ⟨(some 20), none, .load false 1 (.t 19) false⟩,
      ⟨(some 21), none, .len false (.t 20)⟩,
      ⟨(some 22), none, .bin .lss (.t 18) (.t 21)⟩] [2, 3, 5, 22])
  (.cond (.t 22)
    .skip
    (.exit 0)))
  (.seq (.block 1
    (.seq (.rg [⟨(some 25), none, .fad 3 (.t 2)⟩,
        ⟨(some 26), none, .load false 1 (.t 25) false⟩,
        ⟨(some 27), none, .mv (.t 5)⟩,
        ⟨(some 28), none, .iad 3 (.t 26) (.t 27)⟩,
        ⟨(some 29), none, .fad 0 (.t 28)⟩,
        ⟨(some 30), none, .load false 1 (.t 29) false⟩,
        ⟨(some 31), none, .len false (.t 30)⟩,
        ⟨(some 32), none, .bin .gtr (.t 31) (.c (.int .i64 10))⟩] [2, 3, 5, 32])
    (.cond (.t 32)
      (.seq (.rg [⟨(some 4), none, .mv (.c (.bool true))⟩] [4])
      .ret)
      .skip)))
  (.rg [⟨(some 23), none, .mv (.t 5)⟩,
      ⟨(some 24), none, .bin .add (.t 23) (.c (.int .i64 1))⟩,
      ⟨(some 5), none, .mv (.t 24)⟩] [2, 3, 5])))
def fn7L0 : Cd := .loop [2, 3, 5] fn7B0
def fn7 : Vs.Fn := ⟨2,
  (.seq (.rg [⟨(some 2), none, .box 4 (.t 0)⟩,
      ⟨(some 3), none, .box 4 (.t 1)⟩,
      ⟨(some 4), none, .mv (.c (.bool false))⟩] [2, 3])
  (.seq (.seq (.rg [⟨(some 6), none, .call 2 (.f 9) []⟩,
      ⟨(some 7), none, .un .not (.t 6)⟩] [2, 3, 7])
  (.cond (.t 7)
    (.seq (.rg [⟨(some 4), none, .mv (.c (.bool false))⟩] [4])
    .ret)
    .skip))
  (.seq (.seq (.rg [⟨(some 8), none, .fad 3 (.t 2)⟩,
      ⟨(some 9), none, .load false 1 (.t 8) false⟩,
      ⟨(some 10), none, .len false (.t 9)⟩,
      ⟨(some 11), none, .bin .gtr (.t 10) (.c (.int .i64 50))⟩,
      ⟨(some 12), none, .mv (.t 11)⟩,
      ⟨(some 13), some (12, false), .fad 3 (.t 3)⟩,
      ⟨(some 14), some (12, false), .load false 1 (.t 13) false⟩,
      ⟨(some 15), some (12, false), .len false (.t 14)⟩,
      ⟨(some 16), some (12, false), .bin .gtr (.t 15) (.c (.int .i64 50))⟩,
      ⟨(some 17), none, .pick (.t 12) (.c (.bool true)) (.t 16)⟩] [2, 3, 17])
  (.cond (.t 17)
    (.seq (.rg [⟨(some 4), none, .mv (.c (.bool true))⟩] [4])
    .ret)
    .skip))
  (.seq (.seq (.rg [⟨(some 5), none, .mv (.c (.int .i64 0))⟩] [2, 3, 5])
  (.block 0
    fn7L0))
  (.seq (.rg [⟨(some 33), none, .load true 4 (.t 2) false⟩,
      ⟨(some 34), none, .call 2 (.f 24) [(.t 33)]⟩,
      ⟨(some 35), none, .load true 4 (.t 2) false⟩,
      ⟨(some 36), none, .call 2 (.f 25) [(.t 35)]⟩,
      ⟨(some 37), none, .eqb false (.t 34) (.t 36)⟩,
      ⟨(some 38), none, .mv (.t 37)⟩,
      ⟨(some 39), some (38, true), .load true 4 (.t 2) false⟩,
      ⟨(some 40), some (38, true), .load true 4 (.t 3) false⟩,
      ⟨(some 41), some (38, true), .call 2 (.f 26) [(.t 39), (.t 40)]⟩,
      ⟨(some 42), some (38, true), .load true 4 (.t 2) false⟩,
      ⟨(some 43), some (38, true), .load true 4 (.t 3) false⟩,
      ⟨(some 44), some (38, true), .call 2 (.f 27) [(.t 42), (.t 43)]⟩,
      ⟨(some 45), some (38, true), .eqb false (.t 41) (.t 44)⟩,
      ⟨(some 46), none, .pick (.t 38) (.t 45) (.c (.bool false))⟩,
      ⟨(some 47), none, .mv (.t 46)⟩,
      ⟨(some 48), some (47, true), .load true 4 (.t 2) false⟩,
      ⟨(some 49), some (47, true), .load true 4 (.t 2) false⟩,
      ⟨(some 50), some (47, true), .call 2 (.f 26) [(.t 48), (.t 49)]⟩,
      ⟨(some 51), none, .pick (.t 47) (.t 50) (.c (.bool false))⟩,
      ⟨(some 4), none, .mv (.t 51)⟩] [4])
  .ret))))),
  [.t 4]⟩

/- spillway/spillwaylaw23.QueueSorts -/
def an8 : Ann := [[0, 1], [2], [0, 1, 11], [4], [2], [0, 1, 23], [4], [0, 5], [0], [0], [0, 5, 6, 7], [0], [0, 5, 6, 7], [0], [0, 6, 7], [2], [2], [0, 8, 9], [2], [4]]
def fn8 : Vs.Fn := ⟨2,
  (.seq (.rg [⟨(some 4), none, .mv (.c (.bool false))⟩] [0, 1])
  (.seq (.seq (.rg [⟨(some 10), none, .call 2 (.f 9) []⟩,
      ⟨(some 11), none, .un .not (.t 10)⟩] [0, 1, 11])
  (.cond (.t 11)
    (.seq (.rg [⟨(some 4), none, .mv (.c (.bool false))⟩] [4])
    .ret)
    .skip))
  (.seq (.seq (.rg [⟨(some 12), none, .mv (.t 0)⟩,
      ⟨(some 13), none, .len false (.t 12)⟩,
      ⟨(some 14), none, .bin .eql (.t 13) (.c (.int .i64 0))⟩,
      ⟨(some 15), none, .mv (.t 14)⟩,
      ⟨(some 16), some (15, false), .mv (.t 0)⟩,
      ⟨(some 17), some (15, false), .len false (.t 16)⟩,
      ⟨(some 18), some (15, false), .bin .gtr (.t 17) (.c (.int .i64 12))⟩,
      ⟨(some 19), none, .pick (.t 15) (.c (.bool true)) (.t 18)⟩,
      ⟨(some 20), none, .mv (.t 19)⟩,
      ⟨(some 21), some (20, false), .mv (.t 0)⟩,
      ⟨(some 22), some (20, false), .call 2 (.f 28) [(.t 21)]⟩,
      ⟨(some 23), none, .pick (.t 20) (.c (.bool true)) (.t 22)⟩] [0, 1, 23])
  (.cond (.t 23)
    (.seq (.rg [⟨(some 4), none, .mv (.c (.bool true))⟩] [4])
    .ret)
    .skip))
  (.seq (.rg [⟨(some 24), none, .mv (.t 1)⟩,
      ⟨(some 25), none, .cvi .i64 (.t 24)⟩,
      ⟨(some 26), none, .mv (.t 0)⟩,
      ⟨(some 27), none, .len false (.t 26)⟩,
      ⟨(some 28), none, .bin .rem (.t 25) (.t 27)⟩,
      ⟨(some 5), none, .mv (.t 28)⟩] [0, 5])
  (.seq (.rg [⟨(some 29), none, .call 0 (.f 10) []⟩,
      ⟨(some 30), none, .call 0 (.f 10) []⟩,
      ⟨(some 6), none, .mv (.t 29)⟩,
      ⟨(some 7), none, .mv (.t 30)⟩] [0, 5, 6, 7])
  (.seq (.rg [⟨(some 31), none, .mv (.t 6)⟩,
      ⟨(some 32), none, .mv (.t 0)⟩,
      ⟨(some 33), none, .call 0 (.f 11) [(.t 31), (.c (.int .i64 1)), (.c (.string ⟨#[103]⟩)), (.t 32)]⟩] [0, 5, 6, 7])
  (.seq (.rg [⟨(some 34), none, .mv (.t 7)⟩,
      ⟨(some 35), none, .mv (.t 0)⟩,
      ⟨(some 36), none, .mv (.t 5)⟩,
      ⟨(some 37), none, .slsl 3 (.t 35) (some (.t 36)) none none⟩,
      ⟨(some 38), none, .apn 3 40 (.t 37)⟩,
      ⟨(some 39), none, .mv (.t 0)⟩,
      ⟨(some 40), none, .mv (.t 5)⟩,
      ⟨(some 41), none, .slsl 3 (.t 39) none (some (.t 40)) none⟩,
      ⟨(some 42), none, .app 3 40 (.t 38) (.t 41)⟩,
      ⟨(some 43), none, .call 0 (.f 11) [(.t 34), (.c (.int .i64 1)), (.c (.string ⟨#[103]⟩)), (.t 42)]⟩] [0, 6, 7])
  (.seq (.rg [⟨(some 44), none, .mv (.t 6)⟩,
      ⟨(some 45), none, .call 2 (.f 13) [(.t 44)]⟩,
      ⟨(some 46), none, .mv (.t 7)⟩,
      ⟨(some 47), none, .call 2 (.f 13) [(.t 46)]⟩,
      ⟨(some 8), none, .mv (.t 45)⟩,
      ⟨(some 9), none, .mv (.t 47)⟩] [0, 8, 9])
  (.seq (.rg [⟨(some 48), none, .mv (.t 8)⟩,
      ⟨(some 49), none, .len false (.t 48)⟩,
      ⟨(some 50), none, .bin .eql (.t 49) (.c (.int .i64 1))⟩,
      ⟨(some 51), none, .mv (.t 50)⟩,
      ⟨(some 52), some (51, true), .mv (.t 9)⟩,
      ⟨(some 53), some (51, true), .len false (.t 52)⟩,
      ⟨(some 54), some (51, true), .bin .eql (.t 53) (.c (.int .i64 1))⟩,
      ⟨(some 55), none, .pick (.t 51) (.t 54) (.c (.bool false))⟩,
      ⟨(some 56), none, .mv (.t 55)⟩,
      ⟨(some 57), some (56, true), .mv (.t 8)⟩,
      ⟨(some 58), some (56, true), .iad 4 (.t 57) (.c (.int .i64 0))⟩,
      ⟨(some 59), some (56, true), .load true 4 (.t 58) false⟩,
      ⟨(some 60), some (56, true), .mv (.t 9)⟩,
      ⟨(some 61), some (56, true), .iad 4 (.t 60) (.c (.int .i64 0))⟩,
      ⟨(some 62), some (56, true), .load true 4 (.t 61) false⟩,
      ⟨(some 63), some (56, true), .call 2 (.f 26) [(.t 59), (.t 62)]⟩,
      ⟨(some 64), none, .pick (.t 56) (.t 63) (.c (.bool false))⟩,
      ⟨(some 65), none, .mv (.t 64)⟩,
      ⟨(some 66), some (65, true), .mv (.t 8)⟩,
      ⟨(some 67), some (65, true), .iad 4 (.t 66) (.c (.int .i64 0))⟩,
      ⟨(some 68), some (65, true), .fad 3 (.t 67)⟩,
      ⟨(some 69), some (65, true), .load false 1 (.t 68) false⟩,
      ⟨(some 70), some (65, true), .len false (.t 69)⟩,
      ⟨(some 71), some (65, true), .mv (.t 0)⟩,
      ⟨(some 72), some (65, true), .len false (.t 71)⟩,
      ⟨(some 73), some (65, true), .bin .eql (.t 70) (.t 72)⟩,
      ⟨(some 74), none, .pick (.t 65) (.t 73) (.c (.bool false))⟩,
      ⟨(some 4), none, .mv (.t 74)⟩] [4])
  .ret))))))))),
  [.t 4]⟩

/- spillway/spillwaylaw23.known -/
def an9 : Ann := [[], [0], [1], [2], [2], [1, 15], [0], [1, 2], [1, 2], [1, 2, 17], [2], [0], [1, 2, 28], [0], [1, 2], [2], [2], [0], [0], [2], [2], [2], [2], [0]]
def fn9B0 : Cd :=
  (.seq (.seq (.rg [⟨(some 16), none, .mv (.t 2)⟩,
      ⟨(some 17), none, .bin .leq (.t 16) (.c (.int .i64 7))⟩] [1, 2, 17])
  (.cond (.t 17)
    .skip
    (.exit 0)))
  (.seq (.block 1
    (.seq (.rg [⟨(some 20), none, .mv (.t 1)⟩,
        ⟨(some 21), none, .mv (.t 2)⟩,
        ⟨(some 22), none, .mv (.t 2)⟩,
        ⟨(some 23), none, .call 2 (.f 29) [(.t 22)]⟩,
        ⟨(some 24), none, .build [.nsl, (.bool false), (.int .i64 0)] [(1, 2, (.t 23))]⟩,
        ⟨(some 25), none, .bslice 1 3 [.nsl, (.bool false), (.int .i64 0)] [(0, (.t 24))]⟩,
        ⟨(some 26), none, .call 0 (.f 11) [(.t 20), (.t 21), (.c (.string ⟨#[103]⟩)), (.t 25)]⟩,
        ⟨(some 27), none, .mv (.t 2)⟩,
        ⟨(some 28), none, .bin .neq (.t 26) (.t 27)⟩] [1, 2, 28])
    (.cond (.t 28)
      (.seq (.rg [⟨(some 0), none, .mv (.c (.bool false))⟩] [0])
      .ret)
      .skip)))
  (.rg [⟨(some 18), none, .mv (.t 2)⟩,
      ⟨(some 19), none, .bin .add (.t 18) (.c (.int .i64 1))⟩,
      ⟨(some 2), none, .mv (.t 19)⟩] [1, 2])))
def fn9L0 : Cd := .loop [1, 2] fn9B0
def fn9 : Vs.Fn := ⟨0,
  (.seq (.rg [⟨(some 0), none, .mv (.c (.bool false))⟩] [])
  (.seq (.rg [⟨(some 3), none, .call 0 (.f 10) []⟩,
      ⟨(some 1), none, .mv (.t 3)⟩] [1])
  (.seq (.seq (.rg [⟨(some 4), none, .mv (.t 1)⟩,
      ⟨(some 5), none, .eqn 0 false (.t 4)⟩,
      ⟨(some 6), none, .mv (.t 5)⟩,
      ⟨(some 7), some (6, false), .mv (.t 1)⟩,
      ⟨(some 8), some (6, false), .call 2 (.f 15) [(.t 7)]⟩,
      ⟨(some 9), some (6, false), .bin .neq (.t 8) (.c (.int .i64 1))⟩,
      ⟨(some 10), none, .pick (.t 6) (.c (.bool true)) (.t 9)⟩,
      ⟨(some 11), none, .mv (.t 10)⟩,
      ⟨(some 12), some (11, false), .mv (.t 1)⟩,
      ⟨(some 13), some (11, false), .call 2 (.f 16) [(.t 12)]⟩,
      ⟨(some 14), some (11, false), .bin .neq (.t 13) (.c (.int .i64 1))⟩,
      ⟨(some 15), none, .pick (.t 11) (.c (.bool true)) (.t 14)⟩] [1, 15])
  (.cond (.t 15)
    (.seq (.rg [⟨(some 0), none, .mv (.c (.bool false))⟩] [0])
    .ret)
    .skip))
  (.seq (.seq (.rg [⟨(some 2), none, .mv (.c (.int .i64 1))⟩] [1, 2])
  (.block 0
    fn9L0))
  (.seq (.rg [⟨(some 29), none, .mv (.t 1)⟩,
      ⟨(some 30), none, .call 2 (.f 15) [(.t 29)]⟩,
      ⟨(some 31), none, .bin .eql (.t 30) (.c (.int .i64 2))⟩,
      ⟨(some 32), none, .mv (.t 31)⟩,
      ⟨(some 33), some (32, true), .mv (.t 1)⟩,
      ⟨(some 34), some (32, true), .nilck (.t 33)⟩,
      ⟨(some 35), some (32, true), .fad 0 (.t 34)⟩,
      ⟨(some 36), some (32, true), .call 2 (.f 14) [(.t 35)]⟩,
      ⟨(some 37), some (32, true), .len false (.t 36)⟩,
      ⟨(some 38), some (32, true), .bin .eql (.t 37) (.c (.int .i64 1))⟩,
      ⟨(some 39), none, .pick (.t 32) (.t 38) (.c (.bool false))⟩,
      ⟨(some 40), none, .mv (.t 39)⟩,
      ⟨(some 41), some (40, true), .mv (.t 1)⟩,
      ⟨(some 42), some (40, true), .call 0 (.f 12) [(.t 41), (.c (.int .i64 8))]⟩,
      ⟨(some 43), some (40, true), .bin .eql (.t 42) (.c (.int .i64 230))⟩,
      ⟨(some 44), none, .pick (.t 40) (.t 43) (.c (.bool false))⟩,
      ⟨(some 45), none, .mv (.t 44)⟩,
      ⟨(some 46), some (45, true), .mv (.t 1)⟩,
      ⟨(some 47), some (45, true), .call 0 (.f 12) [(.t 46), (.c (.int .i64 4))]⟩,
      ⟨(some 48), some (45, true), .bin .eql (.t 47) (.c (.int .i64 0))⟩,
      ⟨(some 49), none, .pick (.t 45) (.t 48) (.c (.bool false))⟩,
      ⟨(some 50), none, .mv (.t 49)⟩,
      ⟨(some 51), some (50, true), .mv (.t 1)⟩,
      ⟨(some 52), some (50, true), .call 2 (.f 15) [(.t 51)]⟩,
      ⟨(some 53), some (50, true), .bin .eql (.t 52) (.c (.int .i64 5))⟩,
      ⟨(some 54), none, .pick (.t 50) (.t 53) (.c (.bool false))⟩,
      ⟨(some 55), none, .mv (.t 54)⟩,
      ⟨(some 56), some (55, true), .mv (.t 1)⟩,
      ⟨(some 57), some (55, true), .call 2 (.f 13) [(.t 56)]⟩,
      ⟨(some 58), some (55, true), .len false (.t 57)⟩,
      ⟨(some 59), some (55, true), .bin .eql (.t 58) (.c (.int .i64 3))⟩,
      ⟨(some 60), none, .pick (.t 55) (.t 59) (.c (.bool false))⟩,
      ⟨(some 61), none, .mv (.t 60)⟩,
      ⟨(some 62), some (61, true), .mv (.t 1)⟩,
      ⟨(some 63), some (61, true), .call 2 (.f 13) [(.t 62)]⟩,
      ⟨(some 64), some (61, true), .iad 4 (.t 63) (.c (.int .i64 0))⟩,
      ⟨(some 65), some (61, true), .load true 4 (.t 64) false⟩,
      ⟨(some 66), some (61, true), .call 2 (.f 24) [(.t 65)]⟩,
      ⟨(some 67), none, .pick (.t 61) (.t 66) (.c (.bool false))⟩,
      ⟨(some 0), none, .mv (.t 67)⟩] [0])
  .ret))))),
  [.t 0]⟩

/- spillway/queue.New -/
def an10 : Ann := [[], [0]]
def fn10 : Vs.Fn := ⟨0,
  (.seq (.rg [⟨(some 0), none, .mv (.c (.pointer none))⟩] [])
  (.seq (.rg [⟨(some 1), none, .build [.nsl, .nsl, (.int .i64 0)] [(2, 1, (.c (.int .i64 1)))]⟩,
      ⟨(some 2), none, .box 3 (.t 1)⟩,
      ⟨(some 0), none, .mv (.t 2)⟩] [0])
  .ret)),
  [.t 0]⟩

/- (*spillway/queue.Queue).Put -/
def an11 : Ann := [[0, 1, 2, 3], [0, 1, 2, 3, 15], [0], [0, 1, 2, 3], [0, 1, 2, 3], [0, 1, 2, 3, 9], [0, 1, 2, 3, 9], [0], [1], [2], [9], [8]]
def fn11 : Vs.Fn := ⟨4,
  (.seq (.rg [⟨(some 8), none, .mv (.c (.int .i64 0))⟩] [0, 1, 2, 3])
  (.seq (.seq (.rg [⟨(some 10), none, .mv (.t 0)⟩,
      ⟨(some 11), none, .nilck (.t 10)⟩,
      ⟨(some 12), none, .fad 1 (.t 11)⟩,
      ⟨(some 13), none, .load false 1 (.t 12) false⟩,
      ⟨(some 14), none, .len false (.t 13)⟩,
      ⟨(some 15), none, .bin .geq (.t 14) (.c (.int .i64 6))⟩] [0, 1, 2, 3, 15])
  (.cond (.t 15)
    (.seq (.rg [⟨(some 16), none, .mv (.t 0)⟩,
        ⟨(some 17), none, .nilck (.t 16)⟩,
        ⟨(some 18), none, .fad 0 (.t 17)⟩,
        ⟨(some 19), none, .mv (.t 0)⟩,
        ⟨(some 20), none, .nilck (.t 19)⟩,
        ⟨(some 21), none, .fad 1 (.t 20)⟩,
        ⟨(some 22), none, .load false 1 (.t 21) false⟩,
        ⟨(some 23), none, .iad 4 (.t 22) (.c (.int .i64 0))⟩,
        ⟨(some 24), none, .fad 0 (.t 23)⟩,
        ⟨(some 25), none, .load false 1 (.t 24) false⟩,
        ⟨(some 26), none, .call 0 (.f 30) [(.t 18), (.t 25)]⟩] [0, 1, 2, 3])
    (.rg [⟨(some 27), none, .mv (.t 0)⟩,
        ⟨(some 28), none, .mv (.t 0)⟩,
        ⟨(some 29), none, .nilck (.t 28)⟩,
        ⟨(some 30), none, .fad 1 (.t 29)⟩,
        ⟨(some 31), none, .load false 1 (.t 30) false⟩,
        ⟨(some 32), none, .slsl 4 (.t 31) (some (.c (.int .i64 1))) none none⟩,
        ⟨(some 33), none, .nilck (.t 27)⟩,
        ⟨(some 34), none, .fad 1 (.t 33)⟩,
        ⟨none, none, .store 1 (.t 34) (.t 32)⟩] [0, 1, 2, 3]))
    .skip))
  (.seq (.rg [⟨(some 35), none, .mv (.t 0)⟩,
      ⟨(some 36), none, .nilck (.t 35)⟩,
      ⟨(some 37), none, .fad 2 (.t 36)⟩,
      ⟨(some 38), none, .load false 1 (.t 37) false⟩,
      ⟨(some 9), none, .mv (.t 38)⟩] [0, 1, 2, 3, 9])
  (.seq (.rg [⟨(some 39), none, .mv (.t 0)⟩,
      ⟨(some 40), none, .nilck (.t 39)⟩,
      ⟨(some 41), none, .fad 2 (.t 40)⟩,
      ⟨(some 42), none, .load false 1 (.t 41) false⟩,
      ⟨(some 43), none, .bin .add (.t 42) (.c (.int .i64 1))⟩,
      ⟨(some 44), none, .nilck (.t 39)⟩,
      ⟨(some 45), none, .fad 2 (.t 44)⟩,
      ⟨none, none, .store 1 (.t 45) (.t 43)⟩] [0, 1, 2, 3, 9])
  (.seq (.rg [⟨(some 46), none, .mv (.t 0)⟩,
      ⟨(some 47), none, .mv (.t 0)⟩,
      ⟨(some 48), none, .nilck (.t 47)⟩,
      ⟨(some 49), none, .fad 1 (.t 48)⟩,
      ⟨(some 50), none, .load false 1 (.t 49) false⟩,
      ⟨(some 51), none, .call 0 (.f 31) [(.t 50)]⟩,
      ⟨(some 52), none, .mv (.t 9)⟩,
      ⟨(some 53), none, .mv (.t 1)⟩,
      ⟨(some 54), none, .mv (.t 2)⟩,
      ⟨(some 55), none, .mv (.t 3)⟩,
      ⟨(some 56), none, .call 1 (.f 33) [(.t 55)]⟩,
      ⟨(some 57), none, .call 2 (.f 32) [(.t 56)]⟩,
      ⟨(some 58), none, .build [(.int .i64 0), (.int .i64 0), (.str ⟨#[]⟩), .nsl] [(0, 1, (.t 52)), (1, 1, (.t 53)), (2, 1, (.t 54)), (3, 1, (.t 57))]⟩,
      ⟨(some 59), none, .bslice 1 4 [(.int .i64 0), (.int .i64 0), (.str ⟨#[]⟩), .nsl] [(0, (.t 58))]⟩,
      ⟨(some 60), none, .app 4 56 (.t 51) (.t 59)⟩,
      ⟨(some 61), none, .nilck (.t 46)⟩,
      ⟨(some 62), none, .fad 1 (.t 61)⟩,
      ⟨none, none, .store 1 (.t 62) (.t 60)⟩] [9])
  (.seq (.rg [⟨(some 63), none, .mv (.t 9)⟩,
      ⟨(some 8), none, .mv (.t 63)⟩] [8])
  .ret)))))),
  [.t 8]⟩

/- (*spillway/queue.Queue).Ack -/
def an12 : Ann := [[0, 3], [0, 3, 10], [4], [0], [0], [], [4]]
def fn12 : Vs.Fn := ⟨2,
  (.seq (.rg [⟨(some 3), none, .box 1 (.t 1)⟩,
      ⟨(some 4), none, .mv (.c (.int .i64 0))⟩] [0, 3])
  (.seq (.seq (.rg [⟨(some 5), none, .load false 1 (.t 3) false⟩,
      ⟨(some 6), none, .mv (.t 0)⟩,
      ⟨(some 7), none, .nilck (.t 6)⟩,
      ⟨(some 8), none, .fad 2 (.t 7)⟩,
      ⟨(some 9), none, .load false 1 (.t 8) false⟩,
      ⟨(some 10), none, .bin .geq (.t 5) (.t 9)⟩] [0, 3, 10])
  (.cond (.t 10)
    (.seq (.rg [⟨(some 4), none, .mv (.c (.int .i64 230))⟩] [4])
    .ret)
    .skip))
  (.seq (.rg [⟨(some 11), none, .mv (.t 0)⟩,
      ⟨(some 12), none, .mv (.t 0)⟩,
      ⟨(some 13), none, .nilck (.t 12)⟩,
      ⟨(some 14), none, .fad 1 (.t 13)⟩,
      ⟨(some 15), none, .load false 1 (.t 14) false⟩,
      ⟨(some 16), none, .call 0 (.f 35) [(.t 15)]⟩,
      ⟨(some 17), none, .mkf 36 [(.t 3)]⟩,
      ⟨(some 18), none, .call 0 (.f 34) [(.t 16), (.t 17)]⟩,
      ⟨(some 19), none, .nilck (.t 11)⟩,
      ⟨(some 20), none, .fad 1 (.t 19)⟩,
      ⟨none, none, .store 1 (.t 20) (.t 18)⟩] [])
  (.seq (.rg [⟨(some 4), none, .mv (.c (.int .i64 0))⟩] [4])
  .ret)))),
  [.t 4]⟩

/- (*spillway/queue.Queue).All -/
def an13 : Ann := [[0], [0], [3], [3, 11, 12, 13], [3, 11, 12, 13], [3, 11, 12, 13, 14], [3, 4, 5, 11, 12, 13], [2], [3, 11, 12, 13], [3, 11, 12, 13], [2]]
def fn13B0 : Cd :=
  (.seq (.rg [⟨(some 14), none, .bin .lss (.t 13) (.t 12)⟩] [3, 11, 12, 13, 14])
  (.seq (.cond (.t 14)
    .skip
    (.exit 0))
  (.seq (.block 1
    (.seq (.rg [⟨(some 15), none, .mv (.t 13)⟩,
        ⟨(some 16), none, .iad 4 (.t 11) (.t 13)⟩,
        ⟨(some 17), none, .load true 4 (.t 16) false⟩,
        ⟨(some 5), none, .alloc [(.int .i64 0), (.int .i64 0), (.str ⟨#[]⟩), .nsl]⟩,
        ⟨(some 4), none, .mv (.t 15)⟩,
        ⟨none, none, .store 4 (.t 5) (.t 17)⟩] [3, 4, 5, 11, 12, 13])
    (.rg [⟨(some 18), none, .mv (.t 3)⟩,
        ⟨(some 19), none, .mv (.t 4)⟩,
        ⟨(some 20), none, .fad 3 (.t 5)⟩,
        ⟨(some 21), none, .load false 1 (.t 20) false⟩,
        ⟨(some 22), none, .call 2 (.f 32) [(.t 21)]⟩,
        ⟨(some 23), none, .iad 4 (.t 18) (.t 19)⟩,
        ⟨(some 24), none, .fad 3 (.t 23)⟩,
        ⟨none, none, .store 1 (.t 24) (.t 22)⟩] [3, 11, 12, 13])))
  (.rg [⟨(some 25), none, .bin .add (.t 13) (.c (.int .i64 1))⟩,
      ⟨(some 13), none, .mv (.t 25)⟩] [3, 11, 12, 13]))))
def fn13L0 : Cd := .loop [3, 11, 12, 13] fn13B0
def fn13 : Vs.Fn := ⟨1,
  (.seq (.rg [⟨(some 2), none, .mv (.c (.slice none 0 0))⟩] [0])
  (.seq (.rg [⟨(some 6), none, .mv (.t 0)⟩,
      ⟨(some 7), none, .nilck (.t 6)⟩,
      ⟨(some 8), none, .fad 1 (.t 7)⟩,
      ⟨(some 9), none, .load false 1 (.t 8) false⟩,
      ⟨(some 10), none, .call 0 (.f 35) [(.t 9)]⟩,
      ⟨(some 3), none, .mv (.t 10)⟩] [3])
  (.seq (.seq (.rg [⟨(some 11), none, .mv (.t 3)⟩,
      ⟨(some 12), none, .len false (.t 11)⟩,
      ⟨(some 13), none, .mv (.c (.int .i64 0))⟩] [3, 11, 12, 13])
  (.block 0
    fn13L0))
  (.seq (.rg [⟨(some 26), none, .mv (.t 3)⟩,
      ⟨(some 2), none, .mv (.t 26)⟩] [2])
  .ret)))),
  [.t 2]⟩

/- (*spillway/queue.drops).Drops -/
def an14 : Ann := [[0], [0], [2]]
def fn14 : Vs.Fn := ⟨1,
  (.seq (.rg [⟨(some 2), none, .mv (.c (.slice none 0 0))⟩] [0])
  (.seq (.rg [⟨(some 3), none, .mv (.t 0)⟩,
      ⟨(some 4), none, .nilck (.t 3)⟩,
      ⟨(some 5), none, .fad 0 (.t 4)⟩,
      ⟨(some 6), none, .load false 1 (.t 5) false⟩,
      ⟨(some 7), none, .call 0 (.f 37) [(.t 6)]⟩,
      ⟨(some 2), none, .mv (.t 7)⟩] [2])
  .ret)),
  [.t 2]⟩

/- (*spillway/queue.Queue).Low -/
def an15 : Ann := [[0], [0, 8], [2], [2]]
def fn15 : Vs.Fn := ⟨1,
  (.seq (.rg [⟨(some 2), none, .mv (.c (.int .i64 0))⟩] [0])
  (.seq (.seq (.rg [⟨(some 3), none, .mv (.t 0)⟩,
      ⟨(some 4), none, .nilck (.t 3)⟩,
      ⟨(some 5), none, .fad 1 (.t 4)⟩,
      ⟨(some 6), none, .load false 1 (.t 5) false⟩,
      ⟨(some 7), none, .len false (.t 6)⟩,
      ⟨(some 8), none, .bin .eql (.t 7) (.c (.int .i64 0))⟩] [0, 8])
  (.cond (.t 8)
    (.seq (.rg [⟨(some 9), none, .mv (.t 0)⟩,
        ⟨(some 10), none, .nilck (.t 9)⟩,
        ⟨(some 11), none, .fad 2 (.t 10)⟩,
        ⟨(some 12), none, .load false 1 (.t 11) false⟩,
        ⟨(some 2), none, .mv (.t 12)⟩] [2])
    .ret)
    .skip))
  (.seq (.rg [⟨(some 13), none, .mv (.t 0)⟩,
      ⟨(some 14), none, .nilck (.t 13)⟩,
      ⟨(some 15), none, .fad 1 (.t 14)⟩,
      ⟨(some 16), none, .load false 1 (.t 15) false⟩,
      ⟨(some 17), none, .iad 4 (.t 16) (.c (.int .i64 0))⟩,
      ⟨(some 18), none, .fad 0 (.t 17)⟩,
      ⟨(some 19), none, .load false 1 (.t 18) false⟩,
      ⟨(some 2), none, .mv (.t 19)⟩] [2])
  .ret))),
  [.t 2]⟩

/- (*spillway/queue.Queue).Next -/
def an16 : Ann := [[0], [2]]
def fn16 : Vs.Fn := ⟨1,
  (.seq (.rg [⟨(some 2), none, .mv (.c (.int .i64 0))⟩] [0])
  (.seq (.rg [⟨(some 3), none, .mv (.t 0)⟩,
      ⟨(some 4), none, .nilck (.t 3)⟩,
      ⟨(some 5), none, .fad 2 (.t 4)⟩,
      ⟨(some 6), none, .load false 1 (.t 5) false⟩,
      ⟨(some 2), none, .mv (.t 6)⟩] [2])
  .ret)),
  [.t 2]⟩

/- (*spillway/spillwayref23.Queue).Put -/
def an17 : Ann := [[0, 1, 2, 3], [0, 1, 2, 3, 14], [0, 1, 2, 3], [0, 1, 2, 3], [0, 1, 2, 3, 43], [0, 1, 2, 3], [0, 1, 2, 3], [0, 1, 2, 3], [2], [0], [8]]
def fn17 : Vs.Fn := ⟨4,
  (.seq (.rg [⟨(some 8), none, .mv (.c (.int .i64 0))⟩] [0, 1, 2, 3])
  (.seq (.seq (.rg [⟨(some 9), none, .mv (.t 0)⟩,
      ⟨(some 10), none, .nilck (.t 9)⟩,
      ⟨(some 11), none, .fad 0 (.t 10)⟩,
      ⟨(some 12), none, .load false 1 (.t 11) false⟩,
      ⟨(some 13), none, .len false (.t 12)⟩,
      ⟨(some 14), none, .bin .geq (.t 13) (.c (.int .i64 6))⟩] [0, 1, 2, 3, 14])
  (.cond (.t 14)
    (.seq (.rg [⟨(some 15), none, .mv (.t 0)⟩,
        ⟨(some 16), none, .mv (.t 0)⟩,
        ⟨(some 17), none, .nilck (.t 16)⟩,
        ⟨(some 18), none, .fad 2 (.t 17)⟩,
        ⟨(some 19), none, .load false 1 (.t 18) false⟩,
        ⟨(some 20), none, .mv (.t 0)⟩,
        ⟨(some 21), none, .nilck (.t 20)⟩,
        ⟨(some 22), none, .fad 0 (.t 21)⟩,
        ⟨(some 23), none, .load false 1 (.t 22) false⟩,
        ⟨(some 24), none, .iad 4 (.t 23) (.c (.int .i64 0))⟩,
        ⟨(some 25), none, .fad 0 (.t 24)⟩,
        ⟨(some 26), none, .load false 1 (.t 25) false⟩,
        ⟨(some 27), none, .bslice 1 1 [(.int .i64 0)] [(0, (.t 26))]⟩,
        ⟨(some 28), none, .app 1 8 (.t 19) (.t 27)⟩,
        ⟨(some 29), none, .nilck (.t 15)⟩,
        ⟨(some 30), none, .fad 2 (.t 29)⟩,
        ⟨none, none, .store 1 (.t 30) (.t 28)⟩] [0, 1, 2, 3])
    (.seq (.rg [⟨(some 31), none, .mv (.t 0)⟩,
        ⟨(some 32), none, .nilck (.t 31)⟩,
        ⟨(some 33), none, .fad 3 (.t 32)⟩,
        ⟨(some 34), none, .load false 1 (.t 33) false⟩,
        ⟨(some 35), none, .bin .add (.t 34) (.c (.int .i64 1))⟩,
        ⟨(some 36), none, .nilck (.t 31)⟩,
        ⟨(some 37), none, .fad 3 (.t 36)⟩,
        ⟨none, none, .store 1 (.t 37) (.t 35)⟩] [0, 1, 2, 3])
    (.seq (.seq (.rg [⟨(some 38), none, .mv (.t 0)⟩,
        ⟨(some 39), none, .nilck (.t 38)⟩,
        ⟨(some 40), none, .fad 2 (.t 39)⟩,
        ⟨(some 41), none, .load false 1 (.t 40) false⟩,
        ⟨(some 42), none, .len false (.t 41)⟩,
        ⟨(some 43), none, .bin .gtr (.t 42) (.c (.int .i64 1000))⟩] [0, 1, 2, 3, 43])
    (.cond (.t 43)
      (.rg [⟨(some 44), none, .mv (.t 0)⟩,
          ⟨(some 45), none, .mv (.t 0)⟩,
          ⟨(some 46), none, .nilck (.t 45)⟩,
          ⟨(some 47), none, .fad 2 (.t 46)⟩,
          ⟨(some 48), none, .load false 1 (.t 47) false⟩,
          ⟨(some 49), none, .slsl 1 (.t 48) (some (.c (.int .i64 1))) none none⟩,
          ⟨(some 50), none, .nilck (.t 44)⟩,
          ⟨(some 51), none, .fad 2 (.t 50)⟩,
          ⟨none, none, .store 1 (.t 51) (.t 49)⟩] [0, 1, 2, 3])
      .skip))
    (.rg [⟨(some 52), none, .mv (.t 0)⟩,
        ⟨(some 53), none, .mv (.t 0)⟩,
        ⟨(some 54), none, .nilck (.t 53)⟩,
        ⟨(some 55), none, .fad 0 (.t 54)⟩,
        ⟨(some 56), none, .load false 1 (.t 55) false⟩,
        ⟨(some 57), none, .slsl 4 (.t 56) (some (.c (.int .i64 1))) none none⟩,
        ⟨(some 58), none, .nilck (.t 52)⟩,
        ⟨(some 59), none, .fad 0 (.t 58)⟩,
        ⟨none, none, .store 1 (.t 59) (.t 57)⟩] [0, 1, 2, 3]))))
    .skip))
  (.seq (.rg [⟨(some 60), none, .mv (.t 0)⟩,
      ⟨(some 61), none, .nilck (.t 60)⟩,
      ⟨(some 62), none, .fad 1 (.t 61)⟩,
      ⟨(some 63), none, .load false 1 (.t 62) false⟩,
      ⟨(some 64), none, .bin .add (.t 63) (.c (.int .i64 1))⟩,
      ⟨(some 65), none, .nilck (.t 60)⟩,
      ⟨(some 66), none, .fad 1 (.t 65)⟩,
      ⟨none, none, .store 1 (.t 66) (.t 64)⟩] [0, 1, 2, 3])
  (.seq (.rg [⟨(some 67), none, .mv (.t 0)⟩,
      ⟨(some 68), none, .mv (.t 0)⟩,
      ⟨(some 69), none, .nilck (.t 68)⟩,
      ⟨(some 70), none, .fad 0 (.t 69)⟩,
      ⟨(some 71), none, .load false 1 (.t 70) false⟩,
      ⟨(some 72), none, .apn 4 56 (.t 71)⟩,
      ⟨(some 73), none, .mv (.t 0)⟩,
      ⟨(some 74), none, .nilck (.t 73)⟩,
      ⟨(some 75), none, .fad 1 (.t 74)⟩,
      ⟨(some 76), none, .load false 1 (.t 75) false⟩,
      ⟨(some 77), none, .mv (.t 1)⟩,
      ⟨(some 78), none, .mv (.t 2)⟩,
      ⟨(some 79), none, .mv (.t 3)⟩,
      ⟨(some 80), none, .call 2 (.f 38) [(.t 79)]⟩,
      ⟨(some 81), none, .build [(.int .i64 0), (.int .i64 0), (.str ⟨#[]⟩), .nsl] [(0, 1, (.t 76)), (1, 1, (.t 77)), (2, 1, (.t 78)), (3, 1, (.t 80))]⟩,
      ⟨(some 82), none, .bslice 1 4 [(.int .i64 0), (.int .i64 0), (.str ⟨#[]⟩), .nsl] [(0, (.t 81))]⟩,
      ⟨(some 83), none, .app 4 56 (.t 72) (.t 82)⟩,
      ⟨(some 84), none, .nilck (.t 67)⟩,
      ⟨(some 85), none, .fad 0 (.t 84)⟩,
      ⟨none, none, .store 1 (.t 85) (.t 83)⟩] [0])
  (.seq (.rg [⟨(some 86), none, .mv (.t 0)⟩,
      ⟨(some 87), none, .nilck (.t 86)⟩,
      ⟨(some 88), none, .fad 1 (.t 87)⟩,
      ⟨(some 89), none, .load false 1 (.t 88) false⟩,
      ⟨(some 8), none, .mv (.t 89)⟩] [8])
  .ret))))),
  [.t 8]⟩

/- (*spillway/spillwayref23.Queue).Ack -/
def an18 : Ann := [[0, 1], [2], [0, 1, 8], [4], [0, 1], [0, 1, 25], [0, 1], [4]]
def fn18B0 : Cd :=
  (.seq (.seq (.rg [⟨(some 9), none, .mv (.t 0)⟩,
      ⟨(some 10), none, .nilck (.t 9)⟩,
      ⟨(some 11), none, .fad 0 (.t 10)⟩,
      ⟨(some 12), none, .load false 1 (.t 11) false⟩,
      ⟨(some 13), none, .len false (.t 12)⟩,
      ⟨(some 14), none, .bin .gtr (.t 13) (.c (.int .i64 0))⟩,
      ⟨(some 15), none, .mv (.t 14)⟩,
      ⟨(some 16), some (15, true), .mv (.t 0)⟩,
      ⟨(some 17), some (15, true), .nilck (.t 16)⟩,
      ⟨(some 18), some (15, true), .fad 0 (.t 17)⟩,
      ⟨(some 19), some (15, true), .load false 1 (.t 18) false⟩,
      ⟨(some 20), some (15, true), .iad 4 (.t 19) (.c (.int .i64 0))⟩,
      ⟨(some 21), some (15, true), .fad 0 (.t 20)⟩,
      ⟨(some 22), some (15, true), .load false 1 (.t 21) false⟩,
      ⟨(some 23), some (15, true), .mv (.t 1)⟩,
      ⟨(some 24), some (15, true), .bin .leq (.t 22) (.t 23)⟩,
      ⟨(some 25), none, .pick (.t 15) (.t 24) (.c (.bool false))⟩] [0, 1, 25])
  (.cond (.t 25)
    .skip
    (.exit 0)))
  (.block 1
    (.rg [⟨(some 26), none, .mv (.t 0)⟩,
        ⟨(some 27), none, .mv (.t 0)⟩,
        ⟨(some 28), none, .nilck (.t 27)⟩,
        ⟨(some 29), none, .fad 0 (.t 28)⟩,
        ⟨(some 30), none, .load false 1 (.t 29) false⟩,
        ⟨(some 31), none, .slsl 4 (.t 30) (some (.c (.int .i64 1))) none none⟩,
        ⟨(some 32), none, .nilck (.t 26)⟩,
        ⟨(some 33), none, .fad 0 (.t 32)⟩,
        ⟨none, none, .store 1 (.t 33) (.t 31)⟩] [0, 1])))
def fn18L0 : Cd := .loop [0, 1] fn18B0
def fn18 : Vs.Fn := ⟨2,
  (.seq (.rg [⟨(some 4), none, .mv (.c (.int .i64 0))⟩] [0, 1])
  (.seq (.seq (.rg [⟨(some 5), none, .mv (.t 1)⟩,
      ⟨(some 6), none, .mv (.t 0)⟩,
      ⟨(some 7), none, .call 2 (.f 21) [(.t 6)]⟩,
      ⟨(some 8), none, .bin .geq (.t 5) (.t 7)⟩] [0, 1, 8])
  (.cond (.t 8)
    (.seq (.rg [⟨(some 4), none, .mv (.c (.int .i64 230))⟩] [4])
    .ret)
    .skip))
  (.seq (.block 0
    fn18L0)
  (.seq (.rg [⟨(some 4), none, .mv (.c (.int .i64 0))⟩] [4])
  .ret)))),
  [.t 4]⟩

/- spillway/spillwayref23.Sames -/
def an19 : Ann := [[0, 1], [0, 1, 10], [4], [0, 1, 5], [0, 1, 5], [0, 1, 5, 14], [2], [0, 1, 5, 26], [4], [0, 1, 5], [4]]
def fn19B0 : Cd :=
  (.seq (.seq (.rg [⟨(some 11), none, .mv (.t 5)⟩,
      ⟨(some 12), none, .mv (.t 0)⟩,
      ⟨(some 13), none, .len false (.t 12)⟩,
      ⟨(some 14), none, .bin .lss (.t 11) (.t 13)⟩] [0, 1, 5, 14])
  (.cond (.t 14)
    .skip
    (.exit 0)))
  (.seq (.block 1
    (.seq (.rg [⟨(some 17), none, .mv (.t 0)⟩,
        ⟨(some 18), none, .mv (.t 5)⟩,
        ⟨(some 19), none, .iad 4 (.t 17) (.t 18)⟩,
        ⟨(some 20), none, .load true 4 (.t 19) false⟩,
        ⟨(some 21), none, .mv (.t 1)⟩,
        ⟨(some 22), none, .mv (.t 5)⟩,
        ⟨(some 23), none, .iad 4 (.t 21) (.t 22)⟩,
        ⟨(some 24), none, .load true 4 (.t 23) false⟩,
        ⟨(some 25), none, .call 2 (.f 27) [(.t 20), (.t 24)]⟩,
        ⟨(some 26), none, .un .not (.t 25)⟩] [0, 1, 5, 26])
    (.cond (.t 26)
      (.seq (.rg [⟨(some 4), none, .mv (.c (.bool false))⟩] [4])
      .ret)
      .skip)))
  (.rg [⟨(some 15), none, .mv (.t 5)⟩,
      ⟨(some 16), none, .bin .add (.t 15) (.c (.int .i64 1))⟩,
      ⟨(some 5), none, .mv (.t 16)⟩] [0, 1, 5])))
def fn19L0 : Cd := .loop [0, 1, 5] fn19B0
def fn19 : Vs.Fn := ⟨2,
  (.seq (.rg [⟨(some 4), none, .mv (.c (.bool false))⟩] [0, 1])
  (.seq (.seq (.rg [⟨(some 6), none, .mv (.t 0)⟩,
      ⟨(some 7), none, .len false (.t 6)⟩,
      ⟨(some 8), none, .mv (.t 1)⟩,
      ⟨(some 9), none, .len false (.t 8)⟩,
      ⟨(some 10), none, .bin .neq (.t 7) (.t 9)⟩] [0, 1, 10])
  (.cond (.t 10)
    (.seq (.rg [⟨(some 4), none, .mv (.c (.bool false))⟩] [4])
    .ret)
    .skip))
  (.seq (.seq (.rg [⟨(some 5), none, .mv (.c (.int .i64 0))⟩] [0, 1, 5])
  (.block 0
    fn19L0))
  (.seq (.rg [⟨(some 4), none, .mv (.c (.bool true))⟩] [4])
  .ret)))),
  [.t 4]⟩

/- (*spillway/spillwayref23.Queue).Low -/
def an20 : Ann := [[0], [0, 8], [2], [2], [2]]
def fn20 : Vs.Fn := ⟨1,
  (.seq (.rg [⟨(some 2), none, .mv (.c (.int .i64 0))⟩] [0])
  (.seq (.seq (.rg [⟨(some 3), none, .mv (.t 0)⟩,
      ⟨(some 4), none, .nilck (.t 3)⟩,
      ⟨(some 5), none, .fad 0 (.t 4)⟩,
      ⟨(some 6), none, .load false 1 (.t 5) false⟩,
      ⟨(some 7), none, .len false (.t 6)⟩,
      ⟨(some 8), none, .bin .eql (.t 7) (.c (.int .i64 0))⟩] [0, 8])
  (.cond (.t 8)
    (.seq (.rg [⟨(some 9), none, .mv (.t 0)⟩,
        ⟨(some 10), none, .call 2 (.f 21) [(.t 9)]⟩,
        ⟨(some 2), none, .mv (.t 10)⟩] [2])
    .ret)
    .skip))
  (.seq (.rg [⟨(some 11), none, .mv (.t 0)⟩,
      ⟨(some 12), none, .nilck (.t 11)⟩,
      ⟨(some 13), none, .fad 0 (.t 12)⟩,
      ⟨(some 14), none, .load false 1 (.t 13) false⟩,
      ⟨(some 15), none, .iad 4 (.t 14) (.c (.int .i64 0))⟩,
      ⟨(some 16), none, .fad 0 (.t 15)⟩,
      ⟨(some 17), none, .load false 1 (.t 16) false⟩,
      ⟨(some 2), none, .mv (.t 17)⟩] [2])
  .ret))),
  [.t 2]⟩

/- (*spillway/spillwayref23.Queue).Next -/
def an21 : Ann := [[0], [2]]
def fn21 : Vs.Fn := ⟨1,
  (.seq (.rg [⟨(some 2), none, .mv (.c (.int .i64 0))⟩] [0])
  (.seq (.rg [⟨(some 3), none, .mv (.t 0)⟩,
      ⟨(some 4), none, .nilck (.t 3)⟩,
      ⟨(some 5), none, .fad 1 (.t 4)⟩,
      ⟨(some 6), none, .load false 1 (.t 5) false⟩,
      ⟨(some 7), none, .bin .add (.t 6) (.c (.int .i64 1))⟩,
      ⟨(some 2), none, .mv (.t 7)⟩] [2])
  .ret)),
  [.t 2]⟩

/- spillway/spillwaylaw23.ints -/
def an22 : Ann := [[0, 1], [0, 1, 10], [4], [0, 1, 5], [0, 1, 5], [0, 1, 5, 14], [0, 1, 5, 25], [4], [0, 1, 5], [4]]
def fn22B0 : Cd :=
  (.seq (.seq (.rg [⟨(some 11), none, .mv (.t 5)⟩,
      ⟨(some 12), none, .mv (.t 0)⟩,
      ⟨(some 13), none, .len false (.t 12)⟩,
      ⟨(some 14), none, .bin .lss (.t 11) (.t 13)⟩] [0, 1, 5, 14])
  (.cond (.t 14)
    .skip
    (.exit 0)))
  (.seq (.block 1
    (.seq (.rg [⟨(some 17), none, .mv (.t 0)⟩,
        ⟨(some 18), none, .mv (.t 5)⟩,
        ⟨(some 19), none, .iad 1 (.t 17) (.t 18)⟩,
        ⟨(some 20), none, .load false 1 (.t 19) false⟩,
        ⟨(some 21), none, .mv (.t 1)⟩,
        ⟨(some 22), none, .mv (.t 5)⟩,
        ⟨(some 23), none, .iad 1 (.t 21) (.t 22)⟩,
        ⟨(some 24), none, .load false 1 (.t 23) false⟩,
        ⟨(some 25), none, .bin .neq (.t 20) (.t 24)⟩] [0, 1, 5, 25])
    (.cond (.t 25)
      (.seq (.rg [⟨(some 4), none, .mv (.c (.bool false))⟩] [4])
      .ret)
      .skip)))
  (.rg [⟨(some 15), none, .mv (.t 5)⟩,
      ⟨(some 16), none, .bin .add (.t 15) (.c (.int .i64 1))⟩,
      ⟨(some 5), none, .mv (.t 16)⟩] [0, 1, 5])))
def fn22L0 : Cd := .loop [0, 1, 5] fn22B0
def fn22 : Vs.Fn := ⟨2,
  (.seq (.rg [⟨(some 4), none, .mv (.c (.bool false))⟩] [0, 1])
  (.seq (.seq (.rg [⟨(some 6), none, .mv (.t 0)⟩,
      ⟨(some 7), none, .len false (.t 6)⟩,
      ⟨(some 8), none, .mv (.t 1)⟩,
      ⟨(some 9), none, .len false (.t 8)⟩,
      ⟨(some 10), none, .bin .neq (.t 7) (.t 9)⟩] [0, 1, 10])
  (.cond (.t 10)
    (.seq (.rg [⟨(some 4), none, .mv (.c (.bool false))⟩] [4])
    .ret)
    .skip))
  (.seq (.seq (.rg [⟨(some 5), none, .mv (.c (.int .i64 0))⟩] [0, 1, 5])
  (.block 0
    fn22L0))
  (.seq (.rg [⟨(some 4), none, .mv (.c (.bool true))⟩] [4])
  .ret)))),
  [.t 4]⟩

/- (*spillway/queue.Queue).Copy -/
def an23 : Ann := [[0], [0], [0], [2]]
def fn23 : Vs.Fn := ⟨1,
  (.seq (.rg [⟨(some 2), none, .mv (.c (.pointer none))⟩] [0])
  (.seq (.rg [⟨(some 3), none, .mv (.t 0)⟩,
      ⟨(some 4), none, .nilck (.t 3)⟩,
      ⟨(some 5), none, .fad 0 (.t 4)⟩,
      ⟨(some 6), none, .fad 0 (.t 5)⟩,
      ⟨(some 7), none, .load false 1 (.t 6) false⟩,
      ⟨(some 8), none, .call 0 (.f 37) [(.t 7)]⟩,
      ⟨(some 9), none, .build [.nsl] [(0, 1, (.t 8))]⟩,
      ⟨(some 10), none, .mv (.t 0)⟩,
      ⟨(some 11), none, .nilck (.t 10)⟩,
      ⟨(some 12), none, .fad 1 (.t 11)⟩,
      ⟨(some 13), none, .load false 1 (.t 12) true⟩,
      ⟨(some 14), none, .call 0 (.f 35) [(.t 13)]⟩,
      ⟨(some 15), none, .mv (.t 0)⟩,
      ⟨(some 16), none, .nilck (.t 15)⟩,
      ⟨(some 17), none, .fad 2 (.t 16)⟩,
      ⟨(some 18), none, .load false 1 (.t 17) true⟩,
      ⟨(some 19), none, .build [.nsl, .nsl, (.int .i64 0)] [(0, 1, (.t 9)), (1, 1, (.t 14)), (2, 1, (.t 18))]⟩,
      ⟨(some 20), none, .box 3 (.t 19)⟩,
      ⟨(some 2), none, .mv (.t 20)⟩] [2])
  .ret)),
  [.t 2]⟩

/- spillway/queue.Is -/
def an24 : Ann := [[0, 0, 0], [1], [2], [2], [1], [2], [2], [2]]
def fn24 : Vs.Fn := ⟨1,
  (.seq (.rg [⟨(some 1), none, .boxf 4 (.t 0)⟩,
      ⟨(some 2), none, .mv (.c (.bool false))⟩] [1])
  (.seq (.rg [⟨(some 3), none, .fad 0 (.t 1)⟩,
      ⟨(some 4), none, .load false 1 (.t 3) false⟩,
      ⟨(some 5), none, .bin .gtr (.t 4) (.c (.int .i64 0))⟩,
      ⟨(some 6), none, .mv (.t 5)⟩,
      ⟨(some 7), some (6, true), .fad 1 (.t 1)⟩,
      ⟨(some 8), some (6, true), .load false 1 (.t 7) false⟩,
      ⟨(some 9), some (6, true), .bin .geq (.t 8) (.c (.int .i64 0))⟩,
      ⟨(some 10), none, .pick (.t 6) (.t 9) (.c (.bool false))⟩,
      ⟨(some 11), none, .mv (.t 10)⟩,
      ⟨(some 12), some (11, true), .fad 1 (.t 1)⟩,
      ⟨(some 13), some (11, true), .load false 1 (.t 12) false⟩,
      ⟨(some 14), some (11, true), .bin .leq (.t 13) (.c (.int .i64 1000000))⟩,
      ⟨(some 15), none, .pick (.t 11) (.t 14) (.c (.bool false))⟩,
      ⟨(some 16), none, .mv (.t 15)⟩,
      ⟨(some 17), some (16, true), .fad 2 (.t 1)⟩,
      ⟨(some 18), some (16, true), .load false 1 (.t 17) false⟩,
      ⟨(some 19), some (16, true), .call 2 (.f 39) [(.t 18)]⟩,
      ⟨(some 20), none, .pick (.t 16) (.t 19) (.c (.bool false))⟩,
      ⟨(some 21), none, .mv (.t 20)⟩,
      ⟨(some 22), some (21, true), .fad 3 (.t 1)⟩,
      ⟨(some 23), some (21, true), .load false 1 (.t 22) false⟩,
      ⟨(some 24), some (21, true), .len false (.t 23)⟩,
      ⟨(some 25), some (21, true), .bin .leq (.t 24) (.c (.int .i64 40))⟩,
      ⟨(some 26), none, .pick (.t 21) (.t 25) (.c (.bool false))⟩,
      ⟨(some 27), none, .mv (.t 26)⟩,
      ⟨(some 28), some (27, true), .fad 3 (.t 1)⟩,
      ⟨(some 29), some (27, true), .load false 1 (.t 28) false⟩,
      ⟨(some 30), some (27, true), .call 2 (.f 40) [(.t 29), (.f 41)]⟩,
      ⟨(some 31), some (27, true), .un .not (.t 30)⟩,
      ⟨(some 32), none, .pick (.t 27) (.t 31) (.c (.bool false))⟩,
      ⟨(some 33), none, .mv (.t 32)⟩,
      ⟨(some 34), some (33, true), .fad 3 (.t 1)⟩,
      ⟨(some 35), some (33, true), .load false 1 (.t 34) true⟩,
      ⟨(some 36), some (33, true), .fad 3 (.t 1)⟩,
      ⟨(some 37), some (33, true), .load false 1 (.t 36) false⟩,
      ⟨(some 38), some (33, true), .call 1 (.f 33) [(.t 37)]⟩,
      ⟨(some 39), some (33, true), .call 2 (.f 43) [(.t 35), (.t 38)]⟩,
      ⟨(some 40), none, .pick (.t 33) (.t 39) (.c (.bool false))⟩,
      ⟨(some 41), none, .mv (.t 40)⟩,
      ⟨(some 42), some (41, true), .fad 3 (.t 1)⟩,
      ⟨(some 43), some (41, true), .load false 1 (.t 42) false⟩,
      ⟨(some 44), some (41, true), .call 2 (.f 44) [(.t 43)]⟩,
      ⟨(some 45), some (41, true), .un .not (.t 44)⟩,
      ⟨(some 46), none, .pick (.t 41) (.t 45) (.c (.bool false))⟩,
      ⟨(some 2), none, .mv (.t 46)⟩] [2])
  .ret)),
  [.t 2]⟩

/- spillway/spillwayref23.Is -/
def an25 : Ann := [[1], [2], [1, 29], [2], [1, 3], [1, 3], [1, 3, 34], [1, 3, 4], [2], [2], [2], [1, 3, 68], [2], [1, 3], [2]]
def fn25B0 : Cd :=
  (.seq (.seq (.rg [⟨(some 30), none, .mv (.t 3)⟩,
      ⟨(some 31), none, .fad 3 (.t 1)⟩,
      ⟨(some 32), none, .load false 1 (.t 31) false⟩,
      ⟨(some 33), none, .len false (.t 32)⟩,
      ⟨(some 34), none, .bin .lss (.t 30) (.t 33)⟩] [1, 3, 34])
  (.cond (.t 34)
    .skip
    (.exit 0)))
  (.seq (.block 1
    (.seq (.rg [⟨(some 37), none, .fad 3 (.t 1)⟩,
        ⟨(some 38), none, .load false 1 (.t 37) false⟩,
        ⟨(some 39), none, .mv (.t 3)⟩,
        ⟨(some 40), none, .iad 3 (.t 38) (.t 39)⟩,
        ⟨(some 41), none, .load true 3 (.t 40) false⟩,
        ⟨(some 4), none, .alloc [.nsl, (.bool false), (.int .i64 0)]⟩,
        ⟨none, none, .store 3 (.t 4) (.t 41)⟩] [1, 3, 4])
    (.seq (.rg [⟨(some 42), none, .fad 0 (.t 4)⟩,
        ⟨(some 43), none, .load false 1 (.t 42) false⟩,
        ⟨(some 44), none, .call 2 (.f 46) [(.t 43)]⟩,
        ⟨(some 45), none, .un .not (.t 44)⟩,
        ⟨(some 46), none, .mv (.t 45)⟩,
        ⟨(some 47), some (46, false), .fad 1 (.t 4)⟩,
        ⟨(some 48), some (46, false), .load true 2 (.t 47) false⟩,
        ⟨(some 49), some (46, false), .call 2 (.f 47) [(.t 48)]⟩,
        ⟨(some 50), some (46, false), .un .not (.t 49)⟩,
        ⟨(some 51), none, .pick (.t 46) (.c (.bool true)) (.t 50)⟩,
        ⟨(some 52), none, .mv (.t 51)⟩,
        ⟨(some 53), some (52, false), .mv (.t 3)⟩,
        ⟨(some 54), some (52, false), .bin .gtr (.t 53) (.c (.int .i64 0))⟩,
        ⟨(some 55), some (52, false), .mv (.t 54)⟩,
        ⟨(some 56), some (55, true), .fad 3 (.t 1)⟩,
        ⟨(some 57), some (55, true), .load false 1 (.t 56) false⟩,
        ⟨(some 58), some (55, true), .mv (.t 3)⟩,
        ⟨(some 59), some (55, true), .bin .sub (.t 58) (.c (.int .i64 1))⟩,
        ⟨(some 60), some (55, true), .iad 3 (.t 57) (.t 59)⟩,
        ⟨(some 61), some (55, true), .fad 0 (.t 60)⟩,
        ⟨(some 62), some (55, true), .load false 1 (.t 61) false⟩,
        ⟨(some 63), some (55, true), .fad 0 (.t 4)⟩,
        ⟨(some 64), some (55, true), .load false 1 (.t 63) false⟩,
        ⟨(some 65), some (55, true), .call 2 (.f 48) [(.t 62), (.t 64)]⟩,
        ⟨(some 66), some (55, true), .bin .geq (.t 65) (.c (.int .i64 0))⟩,
        ⟨(some 67), some (52, false), .pick (.t 55) (.t 66) (.c (.bool false))⟩,
        ⟨(some 68), none, .pick (.t 52) (.c (.bool true)) (.t 67)⟩] [1, 3, 68])
    (.cond (.t 68)
      (.seq (.rg [⟨(some 2), none, .mv (.c (.bool false))⟩] [2])
      .ret)
      .skip))))
  (.rg [⟨(some 35), none, .mv (.t 3)⟩,
      ⟨(some 36), none, .bin .add (.t 35) (.c (.int .i64 1))⟩,
      ⟨(some 3), none, .mv (.t 36)⟩] [1, 3])))
def fn25L0 : Cd := .loop [1, 3] fn25B0
def fn25 : Vs.Fn := ⟨1,
  (.seq (.rg [⟨(some 1), none, .box 4 (.t 0)⟩,
      ⟨(some 2), none, .mv (.c (.bool false))⟩] [1])
  (.seq (.seq (.rg [⟨(some 5), none, .fad 0 (.t 1)⟩,
      ⟨(some 6), none, .load false 1 (.t 5) false⟩,
      ⟨(some 7), none, .bin .lss (.t 6) (.c (.int .i64 1))⟩,
      ⟨(some 8), none, .mv (.t 7)⟩,
      ⟨(some 9), some (8, false), .fad 1 (.t 1)⟩,
      ⟨(some 10), some (8, false), .load false 1 (.t 9) false⟩,
      ⟨(some 11), some (8, false), .bin .lss (.t 10) (.c (.int .i64 0))⟩,
      ⟨(some 12), none, .pick (.t 8) (.c (.bool true)) (.t 11)⟩,
      ⟨(some 13), none, .mv (.t 12)⟩,
      ⟨(some 14), some (13, false), .fad 1 (.t 1)⟩,
      ⟨(some 15), some (13, false), .load false 1 (.t 14) false⟩,
      ⟨(some 16), some (13, false), .bin .gtr (.t 15) (.c (.int .i64 1000000))⟩,
      ⟨(some 17), none, .pick (.t 13) (.c (.bool true)) (.t 16)⟩,
      ⟨(some 18), none, .mv (.t 17)⟩,
      ⟨(some 19), some (18, false), .fad 2 (.t 1)⟩,
      ⟨(some 20), some (18, false), .load false 1 (.t 19) false⟩,
      ⟨(some 21), some (18, false), .call 2 (.f 45) [(.t 20)]⟩,
      ⟨(some 22), some (18, false), .un .not (.t 21)⟩,
      ⟨(some 23), none, .pick (.t 18) (.c (.bool true)) (.t 22)⟩,
      ⟨(some 24), none, .mv (.t 23)⟩,
      ⟨(some 25), some (24, false), .fad 3 (.t 1)⟩,
      ⟨(some 26), some (24, false), .load false 1 (.t 25) false⟩,
      ⟨(some 27), some (24, false), .len false (.t 26)⟩,
      ⟨(some 28), some (24, false), .bin .gtr (.t 27) (.c (.int .i64 40))⟩,
      ⟨(some 29), none, .pick (.t 24) (.c (.bool true)) (.t 28)⟩] [1, 29])
  (.cond (.t 29)
    (.seq (.rg [⟨(some 2), none, .mv (.c (.bool false))⟩] [2])
    .ret)
    .skip))
  (.seq (.seq (.rg [⟨(some 3), none, .mv (.c (.int .i64 0))⟩] [1, 3])
  (.block 0
    fn25L0))
  (.seq (.rg [⟨(some 2), none, .mv (.c (.bool true))⟩] [2])
  .ret)))),
  [.t 2]⟩

/- spillway/queue.Same -/
def an26 : Ann := [[2, 3], [2], [4]]
def fn26 : Vs.Fn := ⟨2,
  (.seq (.rg [⟨(some 2), none, .box 4 (.t 0)⟩,
      ⟨(some 3), none, .box 4 (.t 1)⟩,
      ⟨(some 4), none, .mv (.c (.bool false))⟩] [2, 3])
  (.seq (.rg [⟨(some 5), none, .fad 0 (.t 2)⟩,
      ⟨(some 6), none, .load false 1 (.t 5) false⟩,
      ⟨(some 7), none, .fad 0 (.t 3)⟩,
      ⟨(some 8), none, .load false 1 (.t 7) false⟩,
      ⟨(some 9), none, .bin .eql (.t 6) (.t 8)⟩,
      ⟨(some 10), none, .mv (.t 9)⟩,
      ⟨(some 11), some (10, true), .fad 1 (.t 2)⟩,
      ⟨(some 12), some (10, true), .load false 1 (.t 11) false⟩,
      ⟨(some 13), some (10, true), .fad 1 (.t 3)⟩,
      ⟨(some 14), some (10, true), .load false 1 (.t 13) false⟩,
      ⟨(some 15), some (10, true), .bin .eql (.t 12) (.t 14)⟩,
      ⟨(some 16), none, .pick (.t 10) (.t 15) (.c (.bool false))⟩,
      ⟨(some 17), none, .mv (.t 16)⟩,
      ⟨(some 18), some (17, true), .fad 2 (.t 2)⟩,
      ⟨(some 19), some (17, true), .load false 1 (.t 18) false⟩,
      ⟨(some 20), some (17, true), .fad 2 (.t 3)⟩,
      ⟨(some 21), some (17, true), .load false 1 (.t 20) false⟩,
      ⟨(some 22), some (17, true), .bin .eql (.t 19) (.t 21)⟩,
      ⟨(some 23), none, .pick (.t 17) (.t 22) (.c (.bool false))⟩,
      ⟨(some 24), none, .mv (.t 23)⟩,
      ⟨(some 25), some (24, true), .fad 3 (.t 2)⟩,
      ⟨(some 26), some (24, true), .load false 1 (.t 25) false⟩,
      ⟨(some 27), some (24, true), .fad 3 (.t 3)⟩,
      ⟨(some 28), some (24, true), .load false 1 (.t 27) false⟩,
      ⟨(some 29), some (24, true), .call 2 (.f 43) [(.t 26), (.t 28)]⟩,
      ⟨(some 30), none, .pick (.t 24) (.t 29) (.c (.bool false))⟩,
      ⟨(some 4), none, .mv (.t 30)⟩] [4])
  .ret)),
  [.t 4]⟩

/- spillway/spillwayref23.Same -/
def an27 : Ann := [[2, 3], [2], [4]]
def fn27 : Vs.Fn := ⟨2,
  (.seq (.rg [⟨(some 2), none, .box 4 (.t 0)⟩,
      ⟨(some 3), none, .box 4 (.t 1)⟩,
      ⟨(some 4), none, .mv (.c (.bool false))⟩] [2, 3])
  (.seq (.rg [⟨(some 5), none, .fad 0 (.t 2)⟩,
      ⟨(some 6), none, .load false 1 (.t 5) false⟩,
      ⟨(some 7), none, .fad 0 (.t 3)⟩,
      ⟨(some 8), none, .load false 1 (.t 7) false⟩,
      ⟨(some 9), none, .bin .eql (.t 6) (.t 8)⟩,
      ⟨(some 10), none, .mv (.t 9)⟩,
      ⟨(some 11), some (10, true), .fad 1 (.t 2)⟩,
      ⟨(some 12), some (10, true), .load false 1 (.t 11) false⟩,
      ⟨(some 13), some (10, true), .fad 1 (.t 3)⟩,
      ⟨(some 14), some (10, true), .load false 1 (.t 13) false⟩,
      ⟨(some 15), some (10, true), .bin .eql (.t 12) (.t 14)⟩,
      ⟨(some 16), none, .pick (.t 10) (.t 15) (.c (.bool false))⟩,
      ⟨(some 17), none, .mv (.t 16)⟩,
      ⟨(some 18), some (17, true), .fad 2 (.t 2)⟩,
      ⟨(some 19), some (17, true), .load false 1 (.t 18) false⟩,
      ⟨(some 20), some (17, true), .fad 2 (.t 3)⟩,
      ⟨(some 21), some (17, true), .load false 1 (.t 20) false⟩,
      ⟨(some 22), some (17, true), .bin .eql (.t 19) (.t 21)⟩,
      ⟨(some 23), none, .pick (.t 17) (.t 22) (.c (.bool false))⟩,
      ⟨(some 24), none, .mv (.t 23)⟩,
      ⟨(some 25), some (24, true), .fad 3 (.t 2)⟩,
      ⟨(some 26), some (24, true), .load false 1 (.t 25) false⟩,
      ⟨(some 27), some (24, true), .fad 3 (.t 3)⟩,
      ⟨(some 28), some (24, true), .load false 1 (.t 27) false⟩,
      ⟨(some 29), some (24, true), .call 2 (.f 49) [(.t 26), (.t 28)]⟩,
      ⟨(some 30), none, .pick (.t 24) (.t 29) (.c (.bool false))⟩,
      ⟨(some 4), none, .mv (.t 30)⟩] [4])
  .ret)),
  [.t 4]⟩

/- spillway/spillwayref17.Dup -/
def an28 : Ann := [[0], [0, 3], [0, 3], [0, 3, 8], [0, 3, 4], [0, 3, 4], [0, 3, 4, 13], [2], [0, 3, 4, 26], [2], [0, 3, 4], [0, 3], [2]]
def fn28B0 : Cd :=
  (.seq (.seq (.rg [⟨(some 11), none, .mv (.t 4)⟩,
      ⟨(some 12), none, .mv (.t 3)⟩,
      ⟨(some 13), none, .bin .lss (.t 11) (.t 12)⟩] [0, 3, 4, 13])
  (.cond (.t 13)
    .skip
    (.exit 2)))
  (.seq (.block 3
    (.seq (.rg [⟨(some 16), none, .mv (.t 0)⟩,
        ⟨(some 17), none, .mv (.t 3)⟩,
        ⟨(some 18), none, .iad 3 (.t 16) (.t 17)⟩,
        ⟨(some 19), none, .fad 0 (.t 18)⟩,
        ⟨(some 20), none, .load false 1 (.t 19) false⟩,
        ⟨(some 21), none, .mv (.t 0)⟩,
        ⟨(some 22), none, .mv (.t 4)⟩,
        ⟨(some 23), none, .iad 3 (.t 21) (.t 22)⟩,
        ⟨(some 24), none, .fad 0 (.t 23)⟩,
        ⟨(some 25), none, .load false 1 (.t 24) false⟩,
        ⟨(some 26), none, .call 2 (.f 50) [(.t 20), (.t 25)]⟩] [0, 3, 4, 26])
    (.cond (.t 26)
      (.seq (.rg [⟨(some 2), none, .mv (.c (.bool true))⟩] [2])
      .ret)
      .skip)))
  (.rg [⟨(some 14), none, .mv (.t 4)⟩,
      ⟨(some 15), none, .bin .add (.t 14) (.c (.int .i64 1))⟩,
      ⟨(some 4), none, .mv (.t 15)⟩] [0, 3, 4])))
def fn28L0 : Cd := .loop [0, 3, 4] fn28B0
def fn28B1 : Cd :=
  (.seq (.seq (.rg [⟨(some 5), none, .mv (.t 3)⟩,
      ⟨(some 6), none, .mv (.t 0)⟩,
      ⟨(some 7), none, .len false (.t 6)⟩,
      ⟨(some 8), none, .bin .lss (.t 5) (.t 7)⟩] [0, 3, 8])
  (.cond (.t 8)
    .skip
    (.exit 0)))
  (.seq (.block 1
    (.seq (.rg [⟨(some 4), none, .mv (.c (.int .i64 0))⟩] [0, 3, 4])
    (.block 2
      fn28L0)))
  (.rg [⟨(some 9), none, .mv (.t 3)⟩,
      ⟨(some 10), none, .bin .add (.t 9) (.c (.int .i64 1))⟩,
      ⟨(some 3), none, .mv (.t 10)⟩] [0, 3])))
def fn28L1 : Cd := .loop [0, 3] fn28B1
def fn28 : Vs.Fn := ⟨1,
  (.seq (.rg [⟨(some 2), none, .mv (.c (.bool false))⟩] [0])
  (.seq (.seq (.rg [⟨(some 3), none, .mv (.c (.int .i64 0))⟩] [0, 3])
  (.block 0
    fn28L1))
  (.seq (.rg [⟨(some 2), none, .mv (.c (.bool false))⟩] [2])
  .ret))),
  [.t 2]⟩

/- spillway/fix.Of -/
def an29 : Ann := [[0, 2], [2], [2], [2]]
def fn29 : Vs.Fn := ⟨1,
  (.seq (.rg [⟨(some 2), none, .alloc [(.bool false), (.int .i64 0)]⟩] [0, 2])
  (.seq (.rg [⟨(some 3), none, .mv (.t 0)⟩,
      ⟨(some 4), none, .bin .lss (.t 3) (.c (.int .i64 0))⟩,
      ⟨(some 5), none, .mv (.t 0)⟩,
      ⟨(some 6), none, .call 2 (.f 52) [(.t 5)]⟩,
      ⟨(some 7), none, .call 2 (.f 51) [(.t 4), (.t 6), (.c (.int .u64 1000000)), (.c (.int .u64 1))]⟩,
      ⟨none, none, .store 2 (.t 2) (.t 7)⟩] [2])
  .ret)),
  [.cell 2 true 2]⟩

/- (*spillway/queue.drops).drop -/
def an30 : Ann := [[0], []]
def fn30 : Vs.Fn := ⟨2,
  (.seq (.rg [⟨(some 4), none, .mv (.t 0)⟩,
      ⟨(some 5), none, .mv (.t 0)⟩,
      ⟨(some 6), none, .nilck (.t 5)⟩,
      ⟨(some 7), none, .fad 0 (.t 6)⟩,
      ⟨(some 8), none, .load false 1 (.t 7) false⟩,
      ⟨(some 9), none, .mv (.t 1)⟩,
      ⟨(some 10), none, .bslice 1 1 [(.int .i64 0)] [(0, (.t 9))]⟩,
      ⟨(some 11), none, .app 1 8 (.t 8) (.t 10)⟩,
      ⟨(some 12), none, .nilck (.t 4)⟩,
      ⟨(some 13), none, .fad 0 (.t 12)⟩,
      ⟨none, none, .store 1 (.t 13) (.t 11)⟩] [0])
  (.rg [⟨(some 14), none, .mv (.t 0)⟩,
      ⟨(some 15), none, .mv (.t 0)⟩,
      ⟨(some 16), none, .nilck (.t 15)⟩,
      ⟨(some 17), none, .fad 0 (.t 16)⟩,
      ⟨(some 18), none, .load false 1 (.t 17) false⟩,
      ⟨(some 19), none, .mv (.t 0)⟩,
      ⟨(some 20), none, .nilck (.t 19)⟩,
      ⟨(some 21), none, .fad 0 (.t 20)⟩,
      ⟨(some 22), none, .load false 1 (.t 21) false⟩,
      ⟨(some 23), none, .len false (.t 22)⟩,
      ⟨(some 24), none, .bin .sub (.t 23) (.c (.int .i64 1000))⟩,
      ⟨(some 25), none, .mx [(.t 24), (.c (.int .i64 0))]⟩,
      ⟨(some 26), none, .slsl 1 (.t 18) (some (.t 25)) none none⟩,
      ⟨(some 27), none, .nilck (.t 14)⟩,
      ⟨(some 28), none, .fad 0 (.t 27)⟩,
      ⟨none, none, .store 1 (.t 28) (.t 26)⟩] [])),
  []⟩

/- slices.Clip[[]spillway/api.Batch,spillway/api.Batch] -/
def an31 : Ann := [[0], [2]]
def fn31 : Vs.Fn := ⟨1,
  (.seq (.rg [⟨(some 2), none, .mv (.c (.slice none 0 0))⟩] [0])
  (.seq (.rg [⟨(some 3), none, .mv (.t 0)⟩,
      ⟨(some 4), none, .mv (.t 0)⟩,
      ⟨(some 5), none, .len false (.t 4)⟩,
      ⟨(some 6), none, .mv (.t 0)⟩,
      ⟨(some 7), none, .len false (.t 6)⟩,
      ⟨(some 8), none, .slsl 4 (.t 3) none (some (.t 5)) (some (.t 7))⟩,
      ⟨(some 2), none, .mv (.t 8)⟩] [2])
  .ret)),
  [.t 2]⟩

/- spillway/queue.copied -/
def an32 : Ann := [[0], [0], [3], [3, 8, 9, 10], [3, 8, 9, 10], [3, 8, 9, 10, 11], [3, 4, 5, 8, 9, 10], [2], [3, 8, 9, 10], [3, 8, 9, 10], [2]]
def fn32B0 : Cd :=
  (.seq (.rg [⟨(some 11), none, .bin .lss (.t 10) (.t 9)⟩] [3, 8, 9, 10, 11])
  (.seq (.cond (.t 11)
    .skip
    (.exit 0))
  (.seq (.block 1
    (.seq (.rg [⟨(some 12), none, .mv (.t 10)⟩,
        ⟨(some 13), none, .iad 3 (.t 8) (.t 10)⟩,
        ⟨(some 14), none, .load true 3 (.t 13) false⟩,
        ⟨(some 5), none, .alloc [.nsl, (.bool false), (.int .i64 0)]⟩,
        ⟨(some 4), none, .mv (.t 12)⟩,
        ⟨none, none, .store 3 (.t 5) (.t 14)⟩] [3, 4, 5, 8, 9, 10])
    (.rg [⟨(some 15), none, .mv (.t 3)⟩,
        ⟨(some 16), none, .mv (.t 4)⟩,
        ⟨(some 17), none, .fad 0 (.t 5)⟩,
        ⟨(some 18), none, .load false 1 (.t 17) false⟩,
        ⟨(some 19), none, .call 2 (.f 54) [(.t 18)]⟩,
        ⟨(some 20), none, .iad 3 (.t 15) (.t 16)⟩,
        ⟨(some 21), none, .fad 0 (.t 20)⟩,
        ⟨none, none, .store 1 (.t 21) (.t 19)⟩] [3, 8, 9, 10])))
  (.rg [⟨(some 22), none, .bin .add (.t 10) (.c (.int .i64 1))⟩,
      ⟨(some 10), none, .mv (.t 22)⟩] [3, 8, 9, 10]))))
def fn32L0 : Cd := .loop [3, 8, 9, 10] fn32B0
def fn32 : Vs.Fn := ⟨1,
  (.seq (.rg [⟨(some 2), none, .mv (.c (.slice none 0 0))⟩] [0])
  (.seq (.rg [⟨(some 6), none, .mv (.t 0)⟩,
      ⟨(some 7), none, .call 0 (.f 53) [(.t 6)]⟩,
      ⟨(some 3), none, .mv (.t 7)⟩] [3])
  (.seq (.seq (.rg [⟨(some 8), none, .mv (.t 3)⟩,
      ⟨(some 9), none, .len false (.t 8)⟩,
      ⟨(some 10), none, .mv (.c (.int .i64 0))⟩] [3, 8, 9, 10])
  (.block 0
    fn32L0))
  (.seq (.rg [⟨(some 23), none, .mv (.t 3)⟩,
      ⟨(some 2), none, .mv (.t 23)⟩] [2])
  .ret)))),
  [.t 2]⟩

/- spillway/vector.Sort -/
def an33 : Ann := [[0], [0], [3], [0], [3], [2]]
def fn33 : Vs.Fn := ⟨1,
  (.seq (.rg [⟨(some 2), none, .mv (.c (.slice none 0 0))⟩] [0])
  (.seq (.rg [⟨(some 4), none, .mv (.t 0)⟩,
      ⟨(some 5), none, .call 0 (.f 53) [(.t 4)]⟩,
      ⟨(some 3), none, .mv (.t 5)⟩] [3])
  (.seq (.rg [⟨(some 6), none, .mv (.t 3)⟩,
      ⟨(some 7), none, .call 0 (.f 55) [(.t 6), (.f 56)]⟩] [3])
  (.seq (.rg [⟨(some 8), none, .mv (.t 3)⟩,
      ⟨(some 2), none, .mv (.t 8)⟩] [2])
  .ret)))),
  [.t 2]⟩

/- slices.DeleteFunc[[]spillway/api.Batch,spillway/api.Batch] -/
def an34 : Ann := [[0, 1], [2], [0, 1, 5], [0, 1, 5, 12], [4], [0, 1, 5, 6], [0, 1, 5, 6], [0, 1, 5, 6, 19], [0, 1, 5, 6, 7], [2], [0, 1, 5, 6, 7, 29], [0, 1, 5, 6], [0, 1, 5, 6], [0, 1, 5, 6], [0, 5], [4]]
def fn34B0 : Cd :=
  (.seq (.seq (.rg [⟨(some 16), none, .mv (.t 6)⟩,
      ⟨(some 17), none, .mv (.t 0)⟩,
      ⟨(some 18), none, .len false (.t 17)⟩,
      ⟨(some 19), none, .bin .lss (.t 16) (.t 18)⟩] [0, 1, 5, 6, 19])
  (.cond (.t 19)
    .skip
    (.exit 0)))
  (.seq (.block 1
    (.seq (.rg [⟨(some 22), none, .mv (.t 0)⟩,
        ⟨(some 23), none, .mv (.t 6)⟩,
        ⟨(some 24), none, .iad 4 (.t 22) (.t 23)⟩,
        ⟨(some 25), none, .load true 4 (.t 24) false⟩,
        ⟨(some 7), none, .alloc [(.int .i64 0), (.int .i64 0), (.str ⟨#[]⟩), .nsl]⟩,
        ⟨none, none, .store 4 (.t 7) (.t 25)⟩] [0, 1, 5, 6, 7])
    (.seq (.rg [⟨(some 26), none, .mv (.t 1)⟩,
        ⟨(some 27), none, .load true 4 (.t 7) false⟩,
        ⟨(some 28), none, .call 2 (.t 26) [(.t 27)]⟩,
        ⟨(some 29), none, .un .not (.t 28)⟩] [0, 1, 5, 6, 7, 29])
    (.cond (.t 29)
      (.seq (.rg [⟨(some 30), none, .mv (.t 0)⟩,
          ⟨(some 31), none, .mv (.t 5)⟩,
          ⟨(some 32), none, .load true 4 (.t 7) false⟩,
          ⟨(some 33), none, .iad 4 (.t 30) (.t 31)⟩,
          ⟨none, none, .store 4 (.t 33) (.t 32)⟩] [0, 1, 5, 6])
      (.rg [⟨(some 34), none, .mv (.t 5)⟩,
          ⟨(some 35), none, .bin .add (.t 34) (.c (.int .i64 1))⟩,
          ⟨(some 5), none, .mv (.t 35)⟩] [0, 1, 5, 6]))
      .skip))))
  (.rg [⟨(some 20), none, .mv (.t 6)⟩,
      ⟨(some 21), none, .bin .add (.t 20) (.c (.int .i64 1))⟩,
      ⟨(some 6), none, .mv (.t 21)⟩] [0, 1, 5, 6])))
def fn34L0 : Cd := .loop [0, 1, 5, 6] fn34B0
def fn34 : Vs.Fn := ⟨2,
  (.seq (.rg [⟨(some 4), none, .mv (.c (.slice none 0 0))⟩] [0, 1])
  (.seq (.rg [⟨(some 8), none, .mv (.t 0)⟩,
      ⟨(some 9), none, .mv (.t 1)⟩,
      ⟨(some 10), none, .call 2 (.f 58) [(.t 8), (.t 9)]⟩,
      ⟨(some 5), none, .mv (.t 10)⟩] [0, 1, 5])
  (.seq (.seq (.rg [⟨(some 11), none, .mv (.t 5)⟩,
      ⟨(some 12), none, .bin .eql (.t 11) (.c (.int .i64 (-1)))⟩] [0, 1, 5, 12])
  (.cond (.t 12)
    (.seq (.rg [⟨(some 13), none, .mv (.t 0)⟩,
        ⟨(some 4), none, .mv (.t 13)⟩] [4])
    .ret)
    .skip))
  (.seq (.seq (.rg [⟨(some 14), none, .mv (.t 5)⟩,
      ⟨(some 15), none, .bin .add (.t 14) (.c (.int .i64 1))⟩,
      ⟨(some 6), none, .mv (.t 15)⟩] [0, 1, 5, 6])
  (.block 0
    fn34L0))
  (.seq (.rg [⟨(some 36), none, .mv (.t 0)⟩,
      ⟨(some 37), none, .mv (.t 5)⟩,
      ⟨(some 38), none, .slsl 4 (.t 36) (some (.t 37)) none none⟩,
      ⟨none, none, .clear 4 [(.int .i64 0), (.int .i64 0), (.str ⟨#[]⟩), .nsl] (.t 38)⟩] [0, 5])
  (.seq (.rg [⟨(some 39), none, .mv (.t 0)⟩,
      ⟨(some 40), none, .mv (.t 5)⟩,
      ⟨(some 41), none, .slsl 4 (.t 39) none (some (.t 40)) none⟩,
      ⟨(some 4), none, .mv (.t 41)⟩] [4])
  .ret)))))),
  [.t 4]⟩

/- slices.Clone[[]spillway/api.Batch,spillway/api.Batch] -/
def an35 : Ann := [[0], [0, 4], [2], [2]]
def fn35 : Vs.Fn := ⟨1,
  (.seq (.rg [⟨(some 2), none, .mv (.c (.slice none 0 0))⟩] [0])
  (.seq (.seq (.rg [⟨(some 3), none, .mv (.t 0)⟩,
      ⟨(some 4), none, .eqn 1 false (.t 3)⟩] [0, 4])
  (.cond (.t 4)
    (.seq (.rg [⟨(some 2), none, .mv (.c (.slice none 0 0))⟩] [2])
    .ret)
    .skip))
  (.seq (.rg [⟨(some 5), none, .bslice 0 4 [(.int .i64 0), (.int .i64 0), (.str ⟨#[]⟩), .nsl] []⟩,
      ⟨(some 6), none, .mv (.t 0)⟩,
      ⟨(some 7), none, .app 4 56 (.t 5) (.t 6)⟩,
      ⟨(some 2), none, .mv (.t 7)⟩] [2])
  .ret))),
  [.t 2]⟩

/- (*spillway/queue.Queue).Ack$1 -/
def an36 : Ann := [[1, 2], [3]]
def fn36 : Vs.Fn := ⟨2,
  (.seq (.rg [⟨(some 2), none, .box 4 (.t 0)⟩,
      ⟨(some 3), none, .mv (.c (.bool false))⟩] [1, 2])
  (.seq (.rg [⟨(some 4), none, .fad 0 (.t 2)⟩,
      ⟨(some 5), none, .load false 1 (.t 4) false⟩,
      ⟨(some 6), none, .load false 1 (.t 1) false⟩,
      ⟨(some 7), none, .bin .leq (.t 5) (.t 6)⟩,
      ⟨(some 3), none, .mv (.t 7)⟩] [3])
  .ret)),
  [.t 3]⟩

/- slices.Clone[[]int,int] -/
def an37 : Ann := [[0], [0, 4], [2], [2]]
def fn37 : Vs.Fn := ⟨1,
  (.seq (.rg [⟨(some 2), none, .mv (.c (.slice none 0 0))⟩] [0])
  (.seq (.seq (.rg [⟨(some 3), none, .mv (.t 0)⟩,
      ⟨(some 4), none, .eqn 1 false (.t 3)⟩] [0, 4])
  (.cond (.t 4)
    (.seq (.rg [⟨(some 2), none, .mv (.c (.slice none 0 0))⟩] [2])
    .ret)
    .skip))
  (.seq (.rg [⟨(some 5), none, .bslice 0 1 [(.int .i64 0)] []⟩,
      ⟨(some 6), none, .mv (.t 0)⟩,
      ⟨(some 7), none, .app 1 8 (.t 5) (.t 6)⟩,
      ⟨(some 2), none, .mv (.t 7)⟩] [2])
  .ret))),
  [.t 2]⟩

/- spillway/spillwayref17.Sort -/
def an38 : Ann := [[0], [0, 3], [0, 3, 4], [0, 3, 4], [0, 3, 4, 9], [0, 3, 4, 5], [0, 3, 4, 5], [2], [0, 3, 4, 5, 30], [0, 3, 4, 5], [0, 3, 4, 5], [0, 3, 4, 5], [0, 3, 4], [0, 3, 4], [2]]
def fn38B0 : Cd :=
  (.seq (.seq (.rg [⟨(some 14), none, .mv (.t 5)⟩,
      ⟨(some 15), none, .bin .gtr (.t 14) (.c (.int .i64 0))⟩,
      ⟨(some 16), none, .mv (.t 15)⟩,
      ⟨(some 17), some (16, true), .mv (.t 3)⟩,
      ⟨(some 18), some (16, true), .mv (.t 5)⟩,
      ⟨(some 19), some (16, true), .bin .sub (.t 18) (.c (.int .i64 1))⟩,
      ⟨(some 20), some (16, true), .iad 3 (.t 17) (.t 19)⟩,
      ⟨(some 21), some (16, true), .fad 0 (.t 20)⟩,
      ⟨(some 22), some (16, true), .load false 1 (.t 21) false⟩,
      ⟨(some 23), some (16, true), .mv (.t 0)⟩,
      ⟨(some 24), some (16, true), .mv (.t 4)⟩,
      ⟨(some 25), some (16, true), .iad 3 (.t 23) (.t 24)⟩,
      ⟨(some 26), some (16, true), .fad 0 (.t 25)⟩,
      ⟨(some 27), some (16, true), .load false 1 (.t 26) false⟩,
      ⟨(some 28), some (16, true), .call 2 (.f 48) [(.t 22), (.t 27)]⟩,
      ⟨(some 29), some (16, true), .bin .gtr (.t 28) (.c (.int .i64 0))⟩,
      ⟨(some 30), none, .pick (.t 16) (.t 29) (.c (.bool false))⟩] [0, 3, 4, 5, 30])
  (.cond (.t 30)
    .skip
    (.exit 2)))
  (.block 3
    (.rg [⟨(some 31), none, .mv (.t 5)⟩,
        ⟨(some 32), none, .bin .sub (.t 31) (.c (.int .i64 1))⟩,
        ⟨(some 5), none, .mv (.t 32)⟩] [0, 3, 4, 5])))
def fn38L0 : Cd := .loop [0, 3, 4, 5] fn38B0
def fn38B1 : Cd :=
  (.seq (.seq (.rg [⟨(some 6), none, .mv (.t 4)⟩,
      ⟨(some 7), none, .mv (.t 0)⟩,
      ⟨(some 8), none, .len false (.t 7)⟩,
      ⟨(some 9), none, .bin .lss (.t 6) (.t 8)⟩] [0, 3, 4, 9])
  (.cond (.t 9)
    .skip
    (.exit 0)))
  (.seq (.block 1
    (.seq (.rg [⟨(some 12), none, .mv (.t 3)⟩,
        ⟨(some 13), none, .len false (.t 12)⟩,
        ⟨(some 5), none, .mv (.t 13)⟩] [0, 3, 4, 5])
    (.seq (.block 2
      fn38L0)
    (.seq (.rg [⟨(some 33), none, .mv (.t 3)⟩,
        ⟨(some 34), none, .build [.nsl, (.bool false), (.int .i64 0)] []⟩,
        ⟨(some 35), none, .bslice 1 3 [.nsl, (.bool false), (.int .i64 0)] [(0, (.t 34))]⟩,
        ⟨(some 36), none, .app 3 40 (.t 33) (.t 35)⟩,
        ⟨(some 3), none, .mv (.t 36)⟩] [0, 3, 4, 5])
    (.seq (.rg [⟨(some 37), none, .mv (.t 3)⟩,
        ⟨(some 38), none, .mv (.t 5)⟩,
        ⟨(some 39), none, .bin .add (.t 38) (.c (.int .i64 1))⟩,
        ⟨(some 40), none, .slsl 3 (.t 37) (some (.t 39)) none none⟩,
        ⟨(some 41), none, .mv (.t 3)⟩,
        ⟨(some 42), none, .mv (.t 5)⟩,
        ⟨(some 43), none, .slsl 3 (.t 41) (some (.t 42)) none none⟩,
        ⟨(some 44), none, .copy 3 (.t 40) (.t 43)⟩] [0, 3, 4, 5])
    (.rg [⟨(some 45), none, .mv (.t 3)⟩,
        ⟨(some 46), none, .mv (.t 5)⟩,
        ⟨(some 47), none, .mv (.t 0)⟩,
        ⟨(some 48), none, .mv (.t 4)⟩,
        ⟨(some 49), none, .iad 3 (.t 47) (.t 48)⟩,
        ⟨(some 50), none, .load true 3 (.t 49) false⟩,
        ⟨(some 51), none, .iad 3 (.t 45) (.t 46)⟩,
        ⟨none, none, .store 3 (.t 51) (.t 50)⟩] [0, 3, 4]))))))
  (.rg [⟨(some 10), none, .mv (.t 4)⟩,
      ⟨(some 11), none, .bin .add (.t 10) (.c (.int .i64 1))⟩,
      ⟨(some 4), none, .mv (.t 11)⟩] [0, 3, 4])))
def fn38L1 : Cd := .loop [0, 3, 4] fn38B1
def fn38 : Vs.Fn := ⟨1,
  (.seq (.rg [⟨(some 2), none, .mv (.c (.slice none 0 0))⟩] [0])
  (.seq (.rg [⟨(some 3), none, .mv (.c (.slice none 0 0))⟩] [0, 3])
  (.seq (.seq (.rg [⟨(some 4), none, .mv (.c (.int .i64 0))⟩] [0, 3, 4])
  (.block 0
    fn38L1))
  (.seq (.rg [⟨(some 52), none, .mv (.t 3)⟩,
      ⟨(some 2), none, .mv (.t 52)⟩] [2])
  .ret)))),
  [.t 2]⟩

/- spillway/label.Name -/
def an39 : Ann := [[0], [0, 6, 7], [0, 6, 7], [0, 6, 7, 8], [0, 3, 6, 7], [0, 3, 4, 6, 7], [0, 6, 7, 43], [2], [0, 6, 7], [2]]
def fn39B0 : Cd :=
  (.seq (.rg [⟨(some 8), none, .bin .lss (.t 7) (.t 6)⟩] [0, 6, 7, 8])
  (.seq (.cond (.t 8)
    .skip
    (.exit 0))
  (.seq (.block 1
    (.seq (.rg [⟨(some 9), none, .mv (.t 7)⟩,
        ⟨(some 3), none, .mv (.t 9)⟩] [0, 3, 6, 7])
    (.seq (.rg [⟨(some 10), none, .mv (.t 0)⟩,
        ⟨(some 11), none, .mv (.t 3)⟩,
        ⟨(some 12), none, .ist (.t 10) (.t 11)⟩,
        ⟨(some 4), none, .mv (.t 12)⟩] [0, 3, 4, 6, 7])
    (.seq (.rg [⟨(some 13), none, .mv (.t 4)⟩,
        ⟨(some 14), none, .bin .geq (.t 13) (.c (.int .u8 97))⟩,
        ⟨(some 15), none, .mv (.t 14)⟩,
        ⟨(some 16), some (15, true), .mv (.t 4)⟩,
        ⟨(some 17), some (15, true), .bin .leq (.t 16) (.c (.int .u8 122))⟩,
        ⟨(some 18), none, .pick (.t 15) (.t 17) (.c (.bool false))⟩,
        ⟨(some 19), none, .mv (.t 18)⟩,
        ⟨(some 20), some (19, false), .mv (.t 4)⟩,
        ⟨(some 21), some (19, false), .bin .geq (.t 20) (.c (.int .u8 65))⟩,
        ⟨(some 22), some (19, false), .mv (.t 21)⟩,
        ⟨(some 23), some (22, true), .mv (.t 4)⟩,
        ⟨(some 24), some (22, true), .bin .leq (.t 23) (.c (.int .u8 90))⟩,
        ⟨(some 25), some (19, false), .pick (.t 22) (.t 24) (.c (.bool false))⟩,
        ⟨(some 26), none, .pick (.t 19) (.c (.bool true)) (.t 25)⟩,
        ⟨(some 27), none, .mv (.t 26)⟩,
        ⟨(some 28), some (27, false), .mv (.t 4)⟩,
        ⟨(some 29), some (27, false), .bin .eql (.t 28) (.c (.int .u8 95))⟩,
        ⟨(some 30), none, .pick (.t 27) (.c (.bool true)) (.t 29)⟩,
        ⟨(some 31), none, .mv (.t 30)⟩,
        ⟨(some 32), some (31, false), .mv (.t 4)⟩,
        ⟨(some 33), some (31, false), .bin .geq (.t 32) (.c (.int .u8 48))⟩,
        ⟨(some 34), some (31, false), .mv (.t 33)⟩,
        ⟨(some 35), some (34, true), .mv (.t 4)⟩,
        ⟨(some 36), some (34, true), .bin .leq (.t 35) (.c (.int .u8 57))⟩,
        ⟨(some 37), some (31, false), .pick (.t 34) (.t 36) (.c (.bool false))⟩,
        ⟨(some 38), some (31, false), .mv (.t 37)⟩,
        ⟨(some 39), some (38, true), .mv (.t 3)⟩,
        ⟨(some 40), some (38, true), .bin .gtr (.t 39) (.c (.int .i64 0))⟩,
        ⟨(some 41), some (31, false), .pick (.t 38) (.t 40) (.c (.bool false))⟩,
        ⟨(some 42), none, .pick (.t 31) (.c (.bool true)) (.t 41)⟩,
        ⟨(some 43), none, .un .not (.t 42)⟩] [0, 6, 7, 43])
    (.cond (.t 43)
      (.seq (.rg [⟨(some 2), none, .mv (.c (.bool false))⟩] [2])
      .ret)
      .skip)))))
  (.rg [⟨(some 44), none, .bin .add (.t 7) (.c (.int .i64 1))⟩,
      ⟨(some 7), none, .mv (.t 44)⟩] [0, 6, 7]))))
def fn39L0 : Cd := .loop [0, 6, 7] fn39B0
def fn39 : Vs.Fn := ⟨1,
  (.seq (.rg [⟨(some 2), none, .mv (.c (.bool false))⟩] [0])
  (.seq (.seq (.rg [⟨(some 5), none, .mv (.t 0)⟩,
      ⟨(some 6), none, .len true (.t 5)⟩,
      ⟨(some 7), none, .mv (.c (.int .i64 0))⟩] [0, 6, 7])
  (.block 0
    fn39L0))
  (.seq (.rg [⟨(some 45), none, .mv (.t 0)⟩,
      ⟨(some 46), none, .len true (.t 45)⟩,
      ⟨(some 47), none, .bin .geq (.t 46) (.c (.int .i64 1))⟩,
      ⟨(some 48), none, .mv (.t 47)⟩,
      ⟨(some 49), some (48, true), .mv (.t 0)⟩,
      ⟨(some 50), some (48, true), .len true (.t 49)⟩,
      ⟨(some 51), some (48, true), .bin .leq (.t 50) (.c (.int .i64 20))⟩,
      ⟨(some 52), none, .pick (.t 48) (.t 51) (.c (.bool false))⟩,
      ⟨(some 2), none, .mv (.t 52)⟩] [2])
  .ret))),
  [.t 2]⟩

/- slices.ContainsFunc[[]spillway/api.Row,spillway/api.Row] -/
def an40 : Ann := [[0, 1], [2], [4]]
def fn40 : Vs.Fn := ⟨2,
  (.seq (.rg [⟨(some 4), none, .mv (.c (.bool false))⟩] [0, 1])
  (.seq (.rg [⟨(some 5), none, .mv (.t 0)⟩,
      ⟨(some 6), none, .mv (.t 1)⟩,
      ⟨(some 7), none, .call 2 (.f 59) [(.t 5), (.t 6)]⟩,
      ⟨(some 8), none, .bin .geq (.t 7) (.c (.int .i64 0))⟩,
      ⟨(some 4), none, .mv (.t 8)⟩] [4])
  .ret)),
  [.t 4]⟩

/- spillway/queue.Is$1 -/
def an41 : Ann := [[1], [2], [2]]
def fn41 : Vs.Fn := ⟨1,
  (.seq (.rg [⟨(some 1), none, .box 3 (.t 0)⟩,
      ⟨(some 2), none, .mv (.c (.bool false))⟩] [1])
  (.seq (.rg [⟨(some 3), none, .load true 3 (.t 1) false⟩,
      ⟨(some 4), none, .call 2 (.f 42) [(.t 3)]⟩,
      ⟨(some 5), none, .un .not (.t 4)⟩,
      ⟨(some 2), none, .mv (.t 5)⟩] [2])
  .ret)),
  [.t 2]⟩

/- spillway/queue.row -/
def an42 : Ann := [[1], [2], [2], [2]]
def fn42 : Vs.Fn := ⟨1,
  (.seq (.rg [⟨(some 1), none, .box 3 (.t 0)⟩,
      ⟨(some 2), none, .mv (.c (.bool false))⟩] [1])
  (.seq (.rg [⟨(some 3), none, .fad 0 (.t 1)⟩,
      ⟨(some 4), none, .load false 1 (.t 3) false⟩,
      ⟨(some 5), none, .call 2 (.f 60) [(.t 4)]⟩,
      ⟨(some 6), none, .mv (.t 5)⟩,
      ⟨(some 7), some (6, true), .fad 1 (.t 1)⟩,
      ⟨(some 8), some (6, true), .load true 2 (.t 7) false⟩,
      ⟨(some 9), some (6, true), .call 2 (.f 61) [(.t 8)]⟩,
      ⟨(some 10), none, .pick (.t 6) (.t 9) (.c (.bool false))⟩,
      ⟨(some 2), none, .mv (.t 10)⟩] [2])
  .ret)),
  [.t 2]⟩

/- spillway/vector.Same -/
def an43 : Ann := [[0, 1], [2], [4]]
def fn43 : Vs.Fn := ⟨2,
  (.seq (.rg [⟨(some 4), none, .mv (.c (.bool false))⟩] [0, 1])
  (.seq (.rg [⟨(some 5), none, .mv (.t 0)⟩,
      ⟨(some 6), none, .mv (.t 1)⟩,
      ⟨(some 7), none, .call 2 (.f 62) [(.t 5), (.t 6), (.f 63)]⟩,
      ⟨(some 4), none, .mv (.t 7)⟩] [4])
  .ret)),
  [.t 4]⟩

/- spillway/vector.Dup -/
def an44 : Ann := [[0], [1], [3], [3, 4], [3, 4], [3, 4, 10], [2], [3, 4, 25], [2], [3, 4], [2]]
def fn44B0 : Cd :=
  (.seq (.seq (.rg [⟨(some 7), none, .mv (.t 4)⟩,
      ⟨(some 8), none, .mv (.t 3)⟩,
      ⟨(some 9), none, .len false (.t 8)⟩,
      ⟨(some 10), none, .bin .lss (.t 7) (.t 9)⟩] [3, 4, 10])
  (.cond (.t 10)
    .skip
    (.exit 0)))
  (.seq (.block 1
    (.seq (.rg [⟨(some 13), none, .mv (.t 3)⟩,
        ⟨(some 14), none, .mv (.t 4)⟩,
        ⟨(some 15), none, .bin .sub (.t 14) (.c (.int .i64 1))⟩,
        ⟨(some 16), none, .iad 3 (.t 13) (.t 15)⟩,
        ⟨(some 17), none, .fad 0 (.t 16)⟩,
        ⟨(some 18), none, .load false 1 (.t 17) false⟩,
        ⟨(some 19), none, .mv (.t 3)⟩,
        ⟨(some 20), none, .mv (.t 4)⟩,
        ⟨(some 21), none, .iad 3 (.t 19) (.t 20)⟩,
        ⟨(some 22), none, .fad 0 (.t 21)⟩,
        ⟨(some 23), none, .load false 1 (.t 22) false⟩,
        ⟨(some 24), none, .call 2 (.f 57) [(.t 18), (.t 23)]⟩,
        ⟨(some 25), none, .bin .eql (.t 24) (.c (.int .i64 0))⟩] [3, 4, 25])
    (.cond (.t 25)
      (.seq (.rg [⟨(some 2), none, .mv (.c (.bool true))⟩] [2])
      .ret)
      .skip)))
  (.rg [⟨(some 11), none, .mv (.t 4)⟩,
      ⟨(some 12), none, .bin .add (.t 11) (.c (.int .i64 1))⟩,
      ⟨(some 4), none, .mv (.t 12)⟩] [3, 4])))
def fn44L0 : Cd := .loop [3, 4] fn44B0
def fn44 : Vs.Fn := ⟨1,
  (.seq (.rg [⟨(some 2), none, .mv (.c (.bool false))⟩] [0])
  (.seq (.rg [⟨(some 5), none, .mv (.t 0)⟩,
      ⟨(some 6), none, .call 1 (.f 33) [(.t 5)]⟩,
      ⟨(some 3), none, .mv (.t 6)⟩] [3])
  (.seq (.seq (.rg [⟨(some 4), none, .mv (.c (.int .i64 1))⟩] [3, 4])
  (.block 0
    fn44L0))
  (.seq (.rg [⟨(some 2), none, .mv (.c (.bool false))⟩] [2])
  .ret)))),
  [.t 2]⟩

/- spillway/spillwayref3.Name -/
def an45 : Ann := [[0], [0, 3], [0, 3], [0, 3, 8], [0, 3, 4], [0, 3, 44], [2], [0, 3], [2]]
def fn45B0 : Cd :=
  (.seq (.seq (.rg [⟨(some 5), none, .mv (.t 3)⟩,
      ⟨(some 6), none, .mv (.t 0)⟩,
      ⟨(some 7), none, .len true (.t 6)⟩,
      ⟨(some 8), none, .bin .lss (.t 5) (.t 7)⟩] [0, 3, 8])
  (.cond (.t 8)
    .skip
    (.exit 0)))
  (.seq (.block 1
    (.seq (.rg [⟨(some 11), none, .mv (.t 0)⟩,
        ⟨(some 12), none, .mv (.t 3)⟩,
        ⟨(some 13), none, .ist (.t 11) (.t 12)⟩,
        ⟨(some 4), none, .mv (.t 13)⟩] [0, 3, 4])
    (.seq (.rg [⟨(some 14), none, .mv (.t 4)⟩,
        ⟨(some 15), none, .bin .geq (.t 14) (.c (.int .u8 97))⟩,
        ⟨(some 16), none, .mv (.t 15)⟩,
        ⟨(some 17), some (16, true), .mv (.t 4)⟩,
        ⟨(some 18), some (16, true), .bin .leq (.t 17) (.c (.int .u8 122))⟩,
        ⟨(some 19), none, .pick (.t 16) (.t 18) (.c (.bool false))⟩,
        ⟨(some 20), none, .mv (.t 19)⟩,
        ⟨(some 21), some (20, false), .mv (.t 4)⟩,
        ⟨(some 22), some (20, false), .bin .geq (.t 21) (.c (.int .u8 65))⟩,
        ⟨(some 23), some (20, false), .mv (.t 22)⟩,
        ⟨(some 24), some (23, true), .mv (.t 4)⟩,
        ⟨(some 25), some (23, true), .bin .leq (.t 24) (.c (.int .u8 90))⟩,
        ⟨(some 26), some (20, false), .pick (.t 23) (.t 25) (.c (.bool false))⟩,
        ⟨(some 27), none, .pick (.t 20) (.c (.bool true)) (.t 26)⟩,
        ⟨(some 28), none, .mv (.t 27)⟩,
        ⟨(some 29), some (28, false), .mv (.t 4)⟩,
        ⟨(some 30), some (28, false), .bin .eql (.t 29) (.c (.int .u8 95))⟩,
        ⟨(some 31), none, .pick (.t 28) (.c (.bool true)) (.t 30)⟩,
        ⟨(some 32), none, .mv (.t 31)⟩,
        ⟨(some 33), some (32, false), .mv (.t 3)⟩,
        ⟨(some 34), some (32, false), .bin .gtr (.t 33) (.c (.int .i64 0))⟩,
        ⟨(some 35), some (32, false), .mv (.t 34)⟩,
        ⟨(some 36), some (35, true), .mv (.t 4)⟩,
        ⟨(some 37), some (35, true), .bin .geq (.t 36) (.c (.int .u8 48))⟩,
        ⟨(some 38), some (32, false), .pick (.t 35) (.t 37) (.c (.bool false))⟩,
        ⟨(some 39), some (32, false), .mv (.t 38)⟩,
        ⟨(some 40), some (39, true), .mv (.t 4)⟩,
        ⟨(some 41), some (39, true), .bin .leq (.t 40) (.c (.int .u8 57))⟩,
        ⟨(some 42), some (32, false), .pick (.t 39) (.t 41) (.c (.bool false))⟩,
        ⟨(some 43), none, .pick (.t 32) (.c (.bool true)) (.t 42)⟩,
        ⟨(some 44), none, .un .not (.t 43)⟩] [0, 3, 44])
    (.cond (.t 44)
      (.seq (.rg [⟨(some 2), none, .mv (.c (.bool false))⟩] [2])
      .ret)
      .skip))))
  (.rg [⟨(some 9), none, .mv (.t 3)⟩,
      ⟨(some 10), none, .bin .add (.t 9) (.c (.int .i64 1))⟩,
      ⟨(some 3), none, .mv (.t 10)⟩] [0, 3])))
def fn45L0 : Cd := .loop [0, 3] fn45B0
def fn45 : Vs.Fn := ⟨1,
  (.seq (.rg [⟨(some 2), none, .mv (.c (.bool false))⟩] [0])
  (.seq (.seq (.rg [⟨(some 3), none, .mv (.c (.int .i64 0))⟩] [0, 3])
  (.block 0
    fn45L0))
  (.seq (.rg [⟨(some 45), none, .mv (.t 0)⟩,
      ⟨(some 46), none, .len true (.t 45)⟩,
      ⟨(some 47), none, .bin .geq (.t 46) (.c (.int .i64 1))⟩,
      ⟨(some 48), none, .mv (.t 47)⟩,
      ⟨(some 49), some (48, true), .mv (.t 0)⟩,
      ⟨(some 50), some (48, true), .len true (.t 49)⟩,
      ⟨(some 51), some (48, true), .bin .leq (.t 50) (.c (.int .i64 20))⟩,
      ⟨(some 52), none, .pick (.t 48) (.t 51) (.c (.bool false))⟩,
      ⟨(some 2), none, .mv (.t 52)⟩] [2])
  .ret))),
  [.t 2]⟩

/- spillway/spillwayref3.Is -/
def an46 : Ann := [[0], [0, 3], [0, 3], [0, 3, 7], [2], [2], [0, 3, 51], [2], [0, 3], [2]]
def fn46B0 : Cd :=
  (.seq (.seq (.rg [⟨(some 4), none, .mv (.t 3)⟩,
      ⟨(some 5), none, .mv (.t 0)⟩,
      ⟨(some 6), none, .len false (.t 5)⟩,
      ⟨(some 7), none, .bin .lss (.t 4) (.t 6)⟩] [0, 3, 7])
  (.cond (.t 7)
    .skip
    (.exit 0)))
  (.seq (.block 1
    (.seq (.rg [⟨(some 10), none, .mv (.t 0)⟩,
        ⟨(some 11), none, .mv (.t 3)⟩,
        ⟨(some 12), none, .iad 2 (.t 10) (.t 11)⟩,
        ⟨(some 13), none, .fad 0 (.t 12)⟩,
        ⟨(some 14), none, .load false 1 (.t 13) false⟩,
        ⟨(some 15), none, .call 2 (.f 45) [(.t 14)]⟩,
        ⟨(some 16), none, .un .not (.t 15)⟩,
        ⟨(some 17), none, .mv (.t 16)⟩,
        ⟨(some 18), some (17, false), .mv (.t 0)⟩,
        ⟨(some 19), some (17, false), .mv (.t 3)⟩,
        ⟨(some 20), some (17, false), .iad 2 (.t 18) (.t 19)⟩,
        ⟨(some 21), some (17, false), .fad 1 (.t 20)⟩,
        ⟨(some 22), some (17, false), .load false 1 (.t 21) false⟩,
        ⟨(some 23), some (17, false), .bin .eql (.t 22) (.c (.string ⟨#[]⟩))⟩,
        ⟨(some 24), none, .pick (.t 17) (.c (.bool true)) (.t 23)⟩,
        ⟨(some 25), none, .mv (.t 24)⟩,
        ⟨(some 26), some (25, false), .mv (.t 0)⟩,
        ⟨(some 27), some (25, false), .mv (.t 3)⟩,
        ⟨(some 28), some (25, false), .iad 2 (.t 26) (.t 27)⟩,
        ⟨(some 29), some (25, false), .fad 1 (.t 28)⟩,
        ⟨(some 30), some (25, false), .load false 1 (.t 29) false⟩,
        ⟨(some 31), some (25, false), .call 2 (.f 65) [(.t 30)]⟩,
        ⟨(some 32), some (25, false), .un .not (.t 31)⟩,
        ⟨(some 33), none, .pick (.t 25) (.c (.bool true)) (.t 32)⟩,
        ⟨(some 34), none, .mv (.t 33)⟩,
        ⟨(some 35), some (34, false), .mv (.t 3)⟩,
        ⟨(some 36), some (34, false), .bin .gtr (.t 35) (.c (.int .i64 0))⟩,
        ⟨(some 37), some (34, false), .mv (.t 36)⟩,
        ⟨(some 38), some (37, true), .mv (.t 0)⟩,
        ⟨(some 39), some (37, true), .mv (.t 3)⟩,
        ⟨(some 40), some (37, true), .bin .sub (.t 39) (.c (.int .i64 1))⟩,
        ⟨(some 41), some (37, true), .iad 2 (.t 38) (.t 40)⟩,
        ⟨(some 42), some (37, true), .fad 0 (.t 41)⟩,
        ⟨(some 43), some (37, true), .load false 1 (.t 42) false⟩,
        ⟨(some 44), some (37, true), .mv (.t 0)⟩,
        ⟨(some 45), some (37, true), .mv (.t 3)⟩,
        ⟨(some 46), some (37, true), .iad 2 (.t 44) (.t 45)⟩,
        ⟨(some 47), some (37, true), .fad 0 (.t 46)⟩,
        ⟨(some 48), some (37, true), .load false 1 (.t 47) false⟩,
        ⟨(some 49), some (37, true), .bin .geq (.t 43) (.t 48)⟩,
        ⟨(some 50), some (34, false), .pick (.t 37) (.t 49) (.c (.bool false))⟩,
        ⟨(some 51), none, .pick (.t 34) (.c (.bool true)) (.t 50)⟩] [0, 3, 51])
    (.cond (.t 51)
      (.seq (.rg [⟨(some 2), none, .mv (.c (.bool false))⟩] [2])
      .ret)
      .skip)))
  (.rg [⟨(some 8), none, .mv (.t 3)⟩,
      ⟨(some 9), none, .bin .add (.t 8) (.c (.int .i64 1))⟩,
      ⟨(some 3), none, .mv (.t 9)⟩] [0, 3])))
def fn46L0 : Cd := .loop [0, 3] fn46B0
def fn46 : Vs.Fn := ⟨1,
  (.seq (.rg [⟨(some 2), none, .mv (.c (.bool false))⟩] [0])
  (.seq (.seq (.rg [⟨(some 3), none, .mv (.c (.int .i64 0))⟩] [0, 3])
  (.block 0
    fn46L0))
  (.seq (.rg [⟨(some 52), none, .mv (.t 0)⟩,
      ⟨(some 53), none, .len false (.t 52)⟩,
      ⟨(some 54), none, .bin .leq (.t 53) (.c (.int .i64 8))⟩,
      ⟨(some 2), none, .mv (.t 54)⟩] [2])
  .ret))),
  [.t 2]⟩

/- spillway/spillwayref2.Is -/
def an47 : Ann := [[1], [2]]
def fn47 : Vs.Fn := ⟨1,
  (.seq (.rg [⟨(some 1), none, .box 2 (.t 0)⟩,
      ⟨(some 2), none, .mv (.c (.bool false))⟩] [1])
  (.seq (.rg [⟨(some 3), none, .fad 0 (.t 1)⟩,
      ⟨(some 4), none, .load false 1 (.t 3) false⟩,
      ⟨(some 5), none, .un .not (.t 4)⟩,
      ⟨(some 6), none, .mv (.t 5)⟩,
      ⟨(some 7), some (6, true), .fad 1 (.t 1)⟩,
      ⟨(some 8), some (6, true), .load false 1 (.t 7) false⟩,
      ⟨(some 9), some (6, true), .bin .neq (.t 8) (.c (.int .i64 (-9223372036854775808)))⟩,
      ⟨(some 10), none, .pick (.t 6) (.t 9) (.c (.bool false))⟩,
      ⟨(some 11), none, .mv (.t 10)⟩,
      ⟨(some 12), some (11, false), .fad 0 (.t 1)⟩,
      ⟨(some 13), some (11, false), .load false 1 (.t 12) false⟩,
      ⟨(some 14), some (11, false), .mv (.t 13)⟩,
      ⟨(some 15), some (14, true), .fad 1 (.t 1)⟩,
      ⟨(some 16), some (14, true), .load false 1 (.t 15) false⟩,
      ⟨(some 17), some (14, true), .bin .eql (.t 16) (.c (.int .i64 0))⟩,
      ⟨(some 18), some (11, false), .pick (.t 14) (.t 17) (.c (.bool false))⟩,
      ⟨(some 19), none, .pick (.t 11) (.c (.bool true)) (.t 18)⟩,
      ⟨(some 2), none, .mv (.t 19)⟩] [2])
  .ret)),
  [.t 2]⟩

/- spillway/spillwayref3.Cmp -/
def an48 : Ann := [[0, 1], [0, 1, 5], [0, 1, 5], [0, 1, 5, 16], [2], [0, 1, 5, 6], [0, 1, 5, 6, 31], [2], [0, 1, 5, 6], [0, 1, 5, 6, 44], [4], [0, 1, 5], [0, 1, 46], [4], [52], [4], [4]]
def fn48B0 : Cd :=
  (.seq (.seq (.rg [⟨(some 7), none, .mv (.t 5)⟩,
      ⟨(some 8), none, .mv (.t 0)⟩,
      ⟨(some 9), none, .len false (.t 8)⟩,
      ⟨(some 10), none, .bin .lss (.t 7) (.t 9)⟩,
      ⟨(some 11), none, .mv (.t 10)⟩,
      ⟨(some 12), some (11, true), .mv (.t 5)⟩,
      ⟨(some 13), some (11, true), .mv (.t 1)⟩,
      ⟨(some 14), some (11, true), .len false (.t 13)⟩,
      ⟨(some 15), some (11, true), .bin .lss (.t 12) (.t 14)⟩,
      ⟨(some 16), none, .pick (.t 11) (.t 15) (.c (.bool false))⟩] [0, 1, 5, 16])
  (.cond (.t 16)
    .skip
    (.exit 0)))
  (.seq (.block 1
    (.seq (.rg [⟨(some 19), none, .mv (.t 0)⟩,
        ⟨(some 20), none, .mv (.t 5)⟩,
        ⟨(some 21), none, .iad 2 (.t 19) (.t 20)⟩,
        ⟨(some 22), none, .fad 0 (.t 21)⟩,
        ⟨(some 23), none, .load false 1 (.t 22) false⟩,
        ⟨(some 24), none, .mv (.t 1)⟩,
        ⟨(some 25), none, .mv (.t 5)⟩,
        ⟨(some 26), none, .iad 2 (.t 24) (.t 25)⟩,
        ⟨(some 27), none, .fad 0 (.t 26)⟩,
        ⟨(some 28), none, .load false 1 (.t 27) false⟩,
        ⟨(some 29), none, .call 2 (.f 66) [(.t 23), (.t 28)]⟩,
        ⟨(some 6), none, .mv (.t 29)⟩] [0, 1, 5, 6])
    (.seq (.seq (.rg [⟨(some 30), none, .mv (.t 6)⟩,
        ⟨(some 31), none, .bin .eql (.t 30) (.c (.int .i64 0))⟩] [0, 1, 5, 6, 31])
    (.cond (.t 31)
      (.rg [⟨(some 32), none, .mv (.t 0)⟩,
          ⟨(some 33), none, .mv (.t 5)⟩,
          ⟨(some 34), none, .iad 2 (.t 32) (.t 33)⟩,
          ⟨(some 35), none, .fad 1 (.t 34)⟩,
          ⟨(some 36), none, .load false 1 (.t 35) false⟩,
          ⟨(some 37), none, .mv (.t 1)⟩,
          ⟨(some 38), none, .mv (.t 5)⟩,
          ⟨(some 39), none, .iad 2 (.t 37) (.t 38)⟩,
          ⟨(some 40), none, .fad 1 (.t 39)⟩,
          ⟨(some 41), none, .load false 1 (.t 40) false⟩,
          ⟨(some 42), none, .call 2 (.f 66) [(.t 36), (.t 41)]⟩,
          ⟨(some 6), none, .mv (.t 42)⟩] [0, 1, 5, 6])
      .skip))
    (.seq (.rg [⟨(some 43), none, .mv (.t 6)⟩,
        ⟨(some 44), none, .bin .neq (.t 43) (.c (.int .i64 0))⟩] [0, 1, 5, 6, 44])
    (.cond (.t 44)
      (.seq (.rg [⟨(some 45), none, .mv (.t 6)⟩,
          ⟨(some 4), none, .mv (.t 45)⟩] [4])
      .ret)
      .skip)))))
  (.rg [⟨(some 17), none, .mv (.t 5)⟩,
      ⟨(some 18), none, .bin .add (.t 17) (.c (.int .i64 1))⟩,
      ⟨(some 5), none, .mv (.t 18)⟩] [0, 1, 5])))
def fn48L0 : Cd := .loop [0, 1, 5] fn48B0
def fn48 : Vs.Fn := ⟨2,
  (.seq (.rg [⟨(some 4), none, .mv (.c (.int .i64 0))⟩] [0, 1])
  (.seq (.seq (.rg [⟨(some 5), none, .mv (.c (.int .i64 0))⟩] [0, 1, 5])
  (.block 0
    fn48L0))
  (.seq (.block 2
    (.seq (.rg [⟨(some 47), none, .mv (.t 0)⟩,
        ⟨(some 48), none, .len false (.t 47)⟩,
        ⟨(some 49), none, .mv (.t 1)⟩,
        ⟨(some 50), none, .len false (.t 49)⟩,
        ⟨(some 51), none, .bin .lss (.t 48) (.t 50)⟩,
        ⟨(some 46), none, .mv (.t 51)⟩] [0, 1, 46])
    (.cond (.t 46)
      (.seq (.rg [⟨(some 4), none, .mv (.c (.int .i64 (-1)))⟩] [4])
      .ret)
      (.seq (.rg [⟨(some 53), none, .mv (.t 0)⟩,
          ⟨(some 54), none, .len false (.t 53)⟩,
          ⟨(some 55), none, .mv (.t 1)⟩,
          ⟨(some 56), none, .len false (.t 55)⟩,
          ⟨(some 57), none, .bin .gtr (.t 54) (.t 56)⟩,
          ⟨(some 52), none, .mv (.t 57)⟩] [52])
      (.cond (.t 52)
        (.seq (.rg [⟨(some 4), none, .mv (.c (.int .i64 1))⟩] [4])
        .ret)
        .skip)))))
  (.seq (.rg [⟨(some 4), none, .mv (.c (.int .i64 0))⟩] [4])
  .ret)))),
  [.t 4]⟩

/- spillway/spillwayref17.Same -/
def an49 : Ann := [[0, 1], [0, 1, 10], [4], [0, 1, 5], [0, 1, 5], [0, 1, 5, 14], [2], [0, 1, 5, 41], [4], [0, 1, 5], [4]]
def fn49B0 : Cd :=
  (.seq (.seq (.rg [⟨(some 11), none, .mv (.t 5)⟩,
      ⟨(some 12), none, .mv (.t 0)⟩,
      ⟨(some 13), none, .len false (.t 12)⟩,
      ⟨(some 14), none, .bin .lss (.t 11) (.t 13)⟩] [0, 1, 5, 14])
  (.cond (.t 14)
    .skip
    (.exit 0)))
  (.seq (.block 1
    (.seq (.rg [⟨(some 17), none, .mv (.t 0)⟩,
        ⟨(some 18), none, .mv (.t 5)⟩,
        ⟨(some 19), none, .iad 3 (.t 17) (.t 18)⟩,
        ⟨(some 20), none, .fad 0 (.t 19)⟩,
        ⟨(some 21), none, .load false 1 (.t 20) false⟩,
        ⟨(some 22), none, .mv (.t 1)⟩,
        ⟨(some 23), none, .mv (.t 5)⟩,
        ⟨(some 24), none, .iad 3 (.t 22) (.t 23)⟩,
        ⟨(some 25), none, .fad 0 (.t 24)⟩,
        ⟨(some 26), none, .load false 1 (.t 25) false⟩,
        ⟨(some 27), none, .call 2 (.f 50) [(.t 21), (.t 26)]⟩,
        ⟨(some 28), none, .un .not (.t 27)⟩,
        ⟨(some 29), none, .mv (.t 28)⟩,
        ⟨(some 30), some (29, false), .mv (.t 0)⟩,
        ⟨(some 31), some (29, false), .mv (.t 5)⟩,
        ⟨(some 32), some (29, false), .iad 3 (.t 30) (.t 31)⟩,
        ⟨(some 33), some (29, false), .fad 1 (.t 32)⟩,
        ⟨(some 34), some (29, false), .load true 2 (.t 33) false⟩,
        ⟨(some 35), some (29, false), .mv (.t 1)⟩,
        ⟨(some 36), some (29, false), .mv (.t 5)⟩,
        ⟨(some 37), some (29, false), .iad 3 (.t 35) (.t 36)⟩,
        ⟨(some 38), some (29, false), .fad 1 (.t 37)⟩,
        ⟨(some 39), some (29, false), .load true 2 (.t 38) false⟩,
        ⟨(some 40), some (29, false), .eqs true [0, 1] (.t 34) (.t 39)⟩,
        ⟨(some 41), none, .pick (.t 29) (.c (.bool true)) (.t 40)⟩] [0, 1, 5, 41])
    (.cond (.t 41)
      (.seq (.rg [⟨(some 4), none, .mv (.c (.bool false))⟩] [4])
      .ret)
      .skip)))
  (.rg [⟨(some 15), none, .mv (.t 5)⟩,
      ⟨(some 16), none, .bin .add (.t 15) (.c (.int .i64 1))⟩,
      ⟨(some 5), none, .mv (.t 16)⟩] [0, 1, 5])))
def fn49L0 : Cd := .loop [0, 1, 5] fn49B0
def fn49 : Vs.Fn := ⟨2,
  (.seq (.rg [⟨(some 4), none, .mv (.c (.bool false))⟩] [0, 1])
  (.seq (.seq (.rg [⟨(some 6), none, .mv (.t 0)⟩,
      ⟨(some 7), none, .len false (.t 6)⟩,
      ⟨(some 8), none, .mv (.t 1)⟩,
      ⟨(some 9), none, .len false (.t 8)⟩,
      ⟨(some 10), none, .bin .neq (.t 7) (.t 9)⟩] [0, 1, 10])
  (.cond (.t 10)
    (.seq (.rg [⟨(some 4), none, .mv (.c (.bool false))⟩] [4])
    .ret)
    .skip))
  (.seq (.seq (.rg [⟨(some 5), none, .mv (.c (.int .i64 0))⟩] [0, 1, 5])
  (.block 0
    fn49L0))
  (.seq (.rg [⟨(some 4), none, .mv (.c (.bool true))⟩] [4])
  .ret)))),
  [.t 4]⟩

/- spillway/spillwayref3.Same -/
def an50 : Ann := [[0, 1], [2], [4]]
def fn50 : Vs.Fn := ⟨2,
  (.seq (.rg [⟨(some 4), none, .mv (.c (.bool false))⟩] [0, 1])
  (.seq (.rg [⟨(some 5), none, .mv (.t 0)⟩,
      ⟨(some 6), none, .mv (.t 1)⟩,
      ⟨(some 7), none, .call 2 (.f 48) [(.t 5), (.t 6)]⟩,
      ⟨(some 8), none, .bin .eql (.t 7) (.c (.int .i64 0))⟩,
      ⟨(some 4), none, .mv (.t 8)⟩] [4])
  .ret)),
  [.t 4]⟩

/- spillway/fix.scaled -/
def an51 : Ann := [[0, 1, 2, 3, 8], [2], [0, 3, 8, 9, 10], [0, 3, 8, 9, 10, 21], [2], [8], [2], [0, 8, 11], [0, 8, 11, 31], [2], [8], [8, 11, 33], [8], [8]]
def fn51 : Vs.Fn := ⟨4,
  (.seq (.rg [⟨(some 8), none, .alloc [(.bool false), (.int .i64 0)]⟩] [0, 1, 2, 3, 8])
  (.seq (.rg [⟨(some 14), none, .mv (.t 1)⟩,
      ⟨(some 15), none, .mv (.t 2)⟩,
      ⟨(some 16), none, .call 2 (.f 67) [(.t 14), (.t 15)]⟩,
      ⟨(some 13), none, .mv (.t 16)⟩,
      ⟨(some 17), none, .ext (.t 13) 0⟩,
      ⟨(some 18), none, .ext (.t 13) 1⟩,
      ⟨(some 9), none, .mv (.t 17)⟩,
      ⟨(some 10), none, .mv (.t 18)⟩] [0, 3, 8, 9, 10])
  (.seq (.seq (.rg [⟨(some 19), none, .mv (.t 9)⟩,
      ⟨(some 20), none, .mv (.t 3)⟩,
      ⟨(some 21), none, .bin .geq (.t 19) (.t 20)⟩] [0, 3, 8, 9, 10, 21])
  (.cond (.t 21)
    (.seq (.rg [⟨(some 22), none, .call 2 (.f 68) []⟩,
        ⟨none, none, .store 2 (.t 8) (.t 22)⟩] [8])
    .ret)
    .skip))
  (.seq (.rg [⟨(some 24), none, .mv (.t 9)⟩,
      ⟨(some 25), none, .mv (.t 10)⟩,
      ⟨(some 26), none, .mv (.t 3)⟩,
      ⟨(some 27), none, .call 2 (.f 69) [(.t 24), (.t 25), (.t 26)]⟩,
      ⟨(some 23), none, .mv (.t 27)⟩,
      ⟨(some 28), none, .ext (.t 23) 0⟩,
      ⟨(some 29), none, .ext (.t 23) 1⟩,
      ⟨(some 11), none, .mv (.t 28)⟩,
      ⟨(some 12), none, .mv (.t 29)⟩] [0, 8, 11])
  (.seq (.seq (.rg [⟨(some 30), none, .mv (.t 11)⟩,
      ⟨(some 31), none, .bin .gtr (.t 30) (.c (.int .u64 9223372036854775807))⟩] [0, 8, 11, 31])
  (.cond (.t 31)
    (.seq (.rg [⟨(some 32), none, .call 2 (.f 68) []⟩,
        ⟨none, none, .store 2 (.t 8) (.t 32)⟩] [8])
    .ret)
    .skip))
  (.seq (.seq (.rg [⟨(some 33), none, .mv (.t 0)⟩] [8, 11, 33])
  (.cond (.t 33)
    (.seq (.rg [⟨(some 34), none, .mv (.t 11)⟩,
        ⟨(some 35), none, .cvi .i64 (.t 34)⟩,
        ⟨(some 36), none, .un .neg (.t 35)⟩,
        ⟨(some 37), none, .build [(.bool false), (.int .i64 0)] [(1, 1, (.t 36))]⟩,
        ⟨none, none, .store 2 (.t 8) (.t 37)⟩] [8])
    .ret)
    .skip))
  (.seq (.rg [⟨(some 38), none, .mv (.t 11)⟩,
      ⟨(some 39), none, .cvi .i64 (.t 38)⟩,
      ⟨(some 40), none, .build [(.bool false), (.int .i64 0)] [(1, 1, (.t 39))]⟩,
      ⟨none, none, .store 2 (.t 8) (.t 40)⟩] [8])
  .ret))))))),
  [.cell 8 true 2]⟩

/- spillway/fix.size -/
def an52 : Ann := [[0], [0, 4], [2], [2]]
def fn52 : Vs.Fn := ⟨1,
  (.seq (.rg [⟨(some 2), none, .mv (.c (.int .u64 0))⟩] [0])
  (.seq (.seq (.rg [⟨(some 3), none, .mv (.t 0)⟩,
      ⟨(some 4), none, .bin .lss (.t 3) (.c (.int .i64 0))⟩] [0, 4])
  (.cond (.t 4)
    (.seq (.rg [⟨(some 5), none, .mv (.t 0)⟩,
        ⟨(some 6), none, .cvi .u64 (.t 5)⟩,
        ⟨(some 7), none, .un .neg (.t 6)⟩,
        ⟨(some 2), none, .mv (.t 7)⟩] [2])
    .ret)
    .skip))
  (.seq (.rg [⟨(some 8), none, .mv (.t 0)⟩,
      ⟨(some 9), none, .cvi .u64 (.t 8)⟩,
      ⟨(some 2), none, .mv (.t 9)⟩] [2])
  .ret))),
  [.t 2]⟩

/- slices.Clone[[]spillway/api.Row,spillway/api.Row] -/
def an53 : Ann := [[0], [0, 4], [2], [2]]
def fn53 : Vs.Fn := ⟨1,
  (.seq (.rg [⟨(some 2), none, .mv (.c (.slice none 0 0))⟩] [0])
  (.seq (.seq (.rg [⟨(some 3), none, .mv (.t 0)⟩,
      ⟨(some 4), none, .eqn 1 false (.t 3)⟩] [0, 4])
  (.cond (.t 4)
    (.seq (.rg [⟨(some 2), none, .mv (.c (.slice none 0 0))⟩] [2])
    .ret)
    .skip))
  (.seq (.rg [⟨(some 5), none, .bslice 0 3 [.nsl, (.bool false), (.int .i64 0)] []⟩,
      ⟨(some 6), none, .mv (.t 0)⟩,
      ⟨(some 7), none, .app 3 40 (.t 5) (.t 6)⟩,
      ⟨(some 2), none, .mv (.t 7)⟩] [2])
  .ret))),
  [.t 2]⟩

/- slices.Clone[[]spillway/api.Pair,spillway/api.Pair] -/
def an54 : Ann := [[0], [0, 4], [2], [2]]
def fn54 : Vs.Fn := ⟨1,
  (.seq (.rg [⟨(some 2), none, .mv (.c (.slice none 0 0))⟩] [0])
  (.seq (.seq (.rg [⟨(some 3), none, .mv (.t 0)⟩,
      ⟨(some 4), none, .eqn 1 false (.t 3)⟩] [0, 4])
  (.cond (.t 4)
    (.seq (.rg [⟨(some 2), none, .mv (.c (.slice none 0 0))⟩] [2])
    .ret)
    .skip))
  (.seq (.rg [⟨(some 5), none, .bslice 0 2 [(.str ⟨#[]⟩), (.str ⟨#[]⟩)] []⟩,
      ⟨(some 6), none, .mv (.t 0)⟩,
      ⟨(some 7), none, .app 2 32 (.t 5) (.t 6)⟩,
      ⟨(some 2), none, .mv (.t 7)⟩] [2])
  .ret))),
  [.t 2]⟩

/- slices.SortStableFunc[[]spillway/api.Row,spillway/api.Row] -/
def an55 : Ann := [[0], []]
def fn55 : Vs.Fn := ⟨2,
  (.rg [⟨(some 4), none, .mv (.t 0)⟩,
      ⟨(some 5), none, .mv (.t 0)⟩,
      ⟨(some 6), none, .len false (.t 5)⟩,
      ⟨(some 7), none, .mv (.t 1)⟩,
      ⟨(some 8), none, .call 0 (.f 70) [(.t 4), (.t 6), (.t 7)]⟩] []),
  []⟩

/- spillway/vector.Sort$1 -/
def an56 : Ann := [[2, 3], [2], [4]]
def fn56 : Vs.Fn := ⟨2,
  (.seq (.rg [⟨(some 2), none, .box 3 (.t 0)⟩,
      ⟨(some 3), none, .box 3 (.t 1)⟩,
      ⟨(some 4), none, .mv (.c (.int .i64 0))⟩] [2, 3])
  (.seq (.rg [⟨(some 5), none, .fad 0 (.t 2)⟩,
      ⟨(some 6), none, .load false 1 (.t 5) false⟩,
      ⟨(some 7), none, .fad 0 (.t 3)⟩,
      ⟨(some 8), none, .load false 1 (.t 7) false⟩,
      ⟨(some 9), none, .call 2 (.f 57) [(.t 6), (.t 8)]⟩,
      ⟨(some 4), none, .mv (.t 9)⟩] [4])
  .ret)),
  [.t 4]⟩

/- spillway/label.Cmp -/
def an57 : Ann := [[0, 1], [2], [4]]
def fn57 : Vs.Fn := ⟨2,
  (.seq (.rg [⟨(some 4), none, .mv (.c (.int .i64 0))⟩] [0, 1])
  (.seq (.rg [⟨(some 5), none, .mv (.t 0)⟩,
      ⟨(some 6), none, .mv (.t 1)⟩,
      ⟨(some 7), none, .call 2 (.f 71) [(.t 5), (.t 6), (.f 72)]⟩,
      ⟨(some 4), none, .mv (.t 7)⟩] [4])
  .ret)),
  [.t 4]⟩

/- slices.IndexFunc[[]spillway/api.Batch,spillway/api.Batch] -/
def an58 : Ann := [[0, 1], [0, 1, 7, 8], [0, 1, 7, 8], [0, 1, 7, 8, 9], [0, 1, 5, 7, 8], [2], [0, 1, 5, 7, 8, 16], [4], [0, 1, 7, 8], [4]]
def fn58B0 : Cd :=
  (.seq (.rg [⟨(some 9), none, .bin .lss (.t 8) (.t 7)⟩] [0, 1, 7, 8, 9])
  (.seq (.cond (.t 9)
    .skip
    (.exit 0))
  (.seq (.block 1
    (.seq (.rg [⟨(some 10), none, .mv (.t 8)⟩,
        ⟨(some 5), none, .mv (.t 10)⟩] [0, 1, 5, 7, 8])
    (.seq (.rg [⟨(some 11), none, .mv (.t 1)⟩,
        ⟨(some 12), none, .mv (.t 0)⟩,
        ⟨(some 13), none, .mv (.t 5)⟩,
        ⟨(some 14), none, .iad 4 (.t 12) (.t 13)⟩,
        ⟨(some 15), none, .load true 4 (.t 14) false⟩,
        ⟨(some 16), none, .call 2 (.t 11) [(.t 15)]⟩] [0, 1, 5, 7, 8, 16])
    (.cond (.t 16)
      (.seq (.rg [⟨(some 17), none, .mv (.t 5)⟩,
          ⟨(some 4), none, .mv (.t 17)⟩] [4])
      .ret)
      .skip))))
  (.rg [⟨(some 18), none, .bin .add (.t 8) (.c (.int .i64 1))⟩,
      ⟨(some 8), none, .mv (.t 18)⟩] [0, 1, 7, 8]))))
def fn58L0 : Cd := .loop [0, 1, 7, 8] fn58B0
def fn58 : Vs.Fn := ⟨2,
  (.seq (.rg [⟨(some 4), none, .mv (.c (.int .i64 0))⟩] [0, 1])
  (.seq (.seq (.rg [⟨(some 6), none, .mv (.t 0)⟩,
      ⟨(some 7), none, .len false (.t 6)⟩,
      ⟨(some 8), none, .mv (.c (.int .i64 0))⟩] [0, 1, 7, 8])
  (.block 0
    fn58L0))
  (.seq (.rg [⟨(some 4), none, .mv (.c (.int .i64 (-1)))⟩] [4])
  .ret))),
  [.t 4]⟩

/- slices.IndexFunc[[]spillway/api.Row,spillway/api.Row] -/
def an59 : Ann := [[0, 1], [0, 1, 7, 8], [0, 1, 7, 8], [0, 1, 7, 8, 9], [0, 1, 5, 7, 8], [2], [0, 1, 5, 7, 8, 16], [4], [0, 1, 7, 8], [4]]
def fn59B0 : Cd :=
  (.seq (.rg [⟨(some 9), none, .bin .lss (.t 8) (.t 7)⟩] [0, 1, 7, 8, 9])
  (.seq (.cond (.t 9)
    .skip
    (.exit 0))
  (.seq (.block 1
    (.seq (.rg [⟨(some 10), none, .mv (.t 8)⟩,
        ⟨(some 5), none, .mv (.t 10)⟩] [0, 1, 5, 7, 8])
    (.seq (.rg [⟨(some 11), none, .mv (.t 1)⟩,
        ⟨(some 12), none, .mv (.t 0)⟩,
        ⟨(some 13), none, .mv (.t 5)⟩,
        ⟨(some 14), none, .iad 3 (.t 12) (.t 13)⟩,
        ⟨(some 15), none, .load true 3 (.t 14) false⟩,
        ⟨(some 16), none, .call 2 (.t 11) [(.t 15)]⟩] [0, 1, 5, 7, 8, 16])
    (.cond (.t 16)
      (.seq (.rg [⟨(some 17), none, .mv (.t 5)⟩,
          ⟨(some 4), none, .mv (.t 17)⟩] [4])
      .ret)
      .skip))))
  (.rg [⟨(some 18), none, .bin .add (.t 8) (.c (.int .i64 1))⟩,
      ⟨(some 8), none, .mv (.t 18)⟩] [0, 1, 7, 8]))))
def fn59L0 : Cd := .loop [0, 1, 7, 8] fn59B0
def fn59 : Vs.Fn := ⟨2,
  (.seq (.rg [⟨(some 4), none, .mv (.c (.int .i64 0))⟩] [0, 1])
  (.seq (.seq (.rg [⟨(some 6), none, .mv (.t 0)⟩,
      ⟨(some 7), none, .len false (.t 6)⟩,
      ⟨(some 8), none, .mv (.c (.int .i64 0))⟩] [0, 1, 7, 8])
  (.block 0
    fn59L0))
  (.seq (.rg [⟨(some 4), none, .mv (.c (.int .i64 (-1)))⟩] [4])
  .ret))),
  [.t 4]⟩

/- spillway/label.Is -/
def an60 : Ann := [[0], [0, 5, 6, 7], [0, 5, 6, 7], [0, 5, 6, 7, 8], [0, 3, 4, 5, 6, 7], [2], [2], [0, 5, 6, 7, 36], [2], [0, 5, 6, 7], [2]]
def fn60B0 : Cd :=
  (.seq (.rg [⟨(some 8), none, .bin .lss (.t 7) (.t 6)⟩] [0, 5, 6, 7, 8])
  (.seq (.cond (.t 8)
    .skip
    (.exit 0))
  (.seq (.block 1
    (.seq (.rg [⟨(some 9), none, .mv (.t 7)⟩,
        ⟨(some 10), none, .iad 2 (.t 5) (.t 7)⟩,
        ⟨(some 11), none, .load true 2 (.t 10) false⟩,
        ⟨(some 4), none, .alloc [(.str ⟨#[]⟩), (.str ⟨#[]⟩)]⟩,
        ⟨(some 3), none, .mv (.t 9)⟩,
        ⟨none, none, .store 2 (.t 4) (.t 11)⟩] [0, 3, 4, 5, 6, 7])
    (.seq (.rg [⟨(some 12), none, .fad 0 (.t 4)⟩,
        ⟨(some 13), none, .load false 1 (.t 12) false⟩,
        ⟨(some 14), none, .call 2 (.f 39) [(.t 13)]⟩,
        ⟨(some 15), none, .un .not (.t 14)⟩,
        ⟨(some 16), none, .mv (.t 15)⟩,
        ⟨(some 17), some (16, false), .fad 1 (.t 4)⟩,
        ⟨(some 18), some (16, false), .load false 1 (.t 17) false⟩,
        ⟨(some 19), some (16, false), .call 2 (.f 75) [(.t 18)]⟩,
        ⟨(some 20), some (16, false), .un .not (.t 19)⟩,
        ⟨(some 21), none, .pick (.t 16) (.c (.bool true)) (.t 20)⟩,
        ⟨(some 22), none, .mv (.t 21)⟩,
        ⟨(some 23), some (22, false), .mv (.t 3)⟩,
        ⟨(some 24), some (22, false), .bin .gtr (.t 23) (.c (.int .i64 0))⟩,
        ⟨(some 25), some (22, false), .mv (.t 24)⟩,
        ⟨(some 26), some (25, true), .mv (.t 0)⟩,
        ⟨(some 27), some (25, true), .mv (.t 3)⟩,
        ⟨(some 28), some (25, true), .bin .sub (.t 27) (.c (.int .i64 1))⟩,
        ⟨(some 29), some (25, true), .iad 2 (.t 26) (.t 28)⟩,
        ⟨(some 30), some (25, true), .fad 0 (.t 29)⟩,
        ⟨(some 31), some (25, true), .load false 1 (.t 30) false⟩,
        ⟨(some 32), some (25, true), .fad 0 (.t 4)⟩,
        ⟨(some 33), some (25, true), .load false 1 (.t 32) false⟩,
        ⟨(some 34), some (25, true), .bin .geq (.t 31) (.t 33)⟩,
        ⟨(some 35), some (22, false), .pick (.t 25) (.t 34) (.c (.bool false))⟩,
        ⟨(some 36), none, .pick (.t 22) (.c (.bool true)) (.t 35)⟩] [0, 5, 6, 7, 36])
    (.cond (.t 36)
      (.seq (.rg [⟨(some 2), none, .mv (.c (.bool false))⟩] [2])
      .ret)
      .skip))))
  (.rg [⟨(some 37), none, .bin .add (.t 7) (.c (.int .i64 1))⟩,
      ⟨(some 7), none, .mv (.t 37)⟩] [0, 5, 6, 7]))))
def fn60L0 : Cd := .loop [0, 5, 6, 7] fn60B0
def fn60 : Vs.Fn := ⟨1,
  (.seq (.rg [⟨(some 2), none, .mv (.c (.bool false))⟩] [0])
  (.seq (.seq (.rg [⟨(some 5), none, .mv (.t 0)⟩,
      ⟨(some 6), none, .len false (.t 5)⟩,
      ⟨(some 7), none, .mv (.c (.int .i64 0))⟩] [0, 5, 6, 7])
  (.block 0
    fn60L0))
  (.seq (.rg [⟨(some 38), none, .mv (.t 0)⟩,
      ⟨(some 39), none, .len false (.t 38)⟩,
      ⟨(some 40), none, .bin .leq (.t 39) (.c (.int .i64 8))⟩,
      ⟨(some 2), none, .mv (.t 40)⟩] [2])
  .ret))),
  [.t 2]⟩

/- spillway/fix.Is -/
def an61 : Ann := [[1], [2], [2]]
def fn61 : Vs.Fn := ⟨1,
  (.seq (.rg [⟨(some 1), none, .box 2 (.t 0)⟩,
      ⟨(some 2), none, .mv (.c (.bool false))⟩] [1])
  (.seq (.rg [⟨(some 3), none, .load true 2 (.t 1) false⟩,
      ⟨(some 4), none, .call 2 (.f 68) []⟩,
      ⟨(some 5), none, .eqs false [0, 1] (.t 3) (.t 4)⟩,
      ⟨(some 6), none, .mv (.t 5)⟩,
      ⟨(some 7), some (6, false), .fad 0 (.t 1)⟩,
      ⟨(some 8), some (6, false), .load false 1 (.t 7) false⟩,
      ⟨(some 9), some (6, false), .un .not (.t 8)⟩,
      ⟨(some 10), some (6, false), .mv (.t 9)⟩,
      ⟨(some 11), some (10, true), .fad 1 (.t 1)⟩,
      ⟨(some 12), some (10, true), .load false 1 (.t 11) false⟩,
      ⟨(some 13), some (10, true), .bin .neq (.t 12) (.c (.int .i64 (-9223372036854775808)))⟩,
      ⟨(some 14), some (6, false), .pick (.t 10) (.t 13) (.c (.bool false))⟩,
      ⟨(some 15), none, .pick (.t 6) (.c (.bool true)) (.t 14)⟩,
      ⟨(some 2), none, .mv (.t 15)⟩] [2])
  .ret)),
  [.t 2]⟩

/- slices.EqualFunc[[]spillway/api.Row,[]spillway/api.Row,spillway/api.Row,spillway/api.Row] -/
def an62 : Ann := [[0, 1, 2], [0, 1, 2, 14], [6], [1, 2, 15, 16, 17], [1, 2, 15, 16, 17], [1, 2, 15, 16, 17, 18], [1, 2, 7, 8, 15, 16, 17], [1, 2, 8, 9, 15, 16, 17], [2], [1, 2, 15, 16, 17, 30], [6], [1, 2, 15, 16, 17], [6]]
def fn62B0 : Cd :=
  (.seq (.rg [⟨(some 18), none, .bin .lss (.t 17) (.t 16)⟩] [1, 2, 15, 16, 17, 18])
  (.seq (.cond (.t 18)
    .skip
    (.exit 0))
  (.seq (.block 1
    (.seq (.rg [⟨(some 19), none, .mv (.t 17)⟩,
        ⟨(some 20), none, .iad 3 (.t 15) (.t 17)⟩,
        ⟨(some 21), none, .load true 3 (.t 20) false⟩,
        ⟨(some 8), none, .alloc [.nsl, (.bool false), (.int .i64 0)]⟩,
        ⟨(some 7), none, .mv (.t 19)⟩,
        ⟨none, none, .store 3 (.t 8) (.t 21)⟩] [1, 2, 7, 8, 15, 16, 17])
    (.seq (.rg [⟨(some 22), none, .mv (.t 1)⟩,
        ⟨(some 23), none, .mv (.t 7)⟩,
        ⟨(some 24), none, .iad 3 (.t 22) (.t 23)⟩,
        ⟨(some 25), none, .load true 3 (.t 24) false⟩,
        ⟨(some 9), none, .alloc [.nsl, (.bool false), (.int .i64 0)]⟩,
        ⟨none, none, .store 3 (.t 9) (.t 25)⟩] [1, 2, 8, 9, 15, 16, 17])
    (.seq (.rg [⟨(some 26), none, .mv (.t 2)⟩,
        ⟨(some 27), none, .load true 3 (.t 8) false⟩,
        ⟨(some 28), none, .load true 3 (.t 9) false⟩,
        ⟨(some 29), none, .call 2 (.t 26) [(.t 27), (.t 28)]⟩,
        ⟨(some 30), none, .un .not (.t 29)⟩] [1, 2, 15, 16, 17, 30])
    (.cond (.t 30)
      (.seq (.rg [⟨(some 6), none, .mv (.c (.bool false))⟩] [6])
      .ret)
      .skip)))))
  (.rg [⟨(some 31), none, .bin .add (.t 17) (.c (.int .i64 1))⟩,
      ⟨(some 17), none, .mv (.t 31)⟩] [1, 2, 15, 16, 17]))))
def fn62L0 : Cd := .loop [1, 2, 15, 16, 17] fn62B0
def fn62 : Vs.Fn := ⟨3,
  (.seq (.rg [⟨(some 6), none, .mv (.c (.bool false))⟩] [0, 1, 2])
  (.seq (.seq (.rg [⟨(some 10), none, .mv (.t 0)⟩,
      ⟨(some 11), none, .len false (.t 10)⟩,
      ⟨(some 12), none, .mv (.t 1)⟩,
      ⟨(some 13), none, .len false (.t 12)⟩,
      ⟨(some 14), none, .bin .neq (.t 11) (.t 13)⟩] [0, 1, 2, 14])
  (.cond (.t 14)
    (.seq (.rg [⟨(some 6), none, .mv (.c (.bool false))⟩] [6])
    .ret)
    .skip))
  (.seq (.seq (.rg [⟨(some 15), none, .mv (.t 0)⟩,
      ⟨(some 16), none, .len false (.t 15)⟩,
      ⟨(some 17), none, .mv (.c (.int .i64 0))⟩] [1, 2, 15, 16, 17])
  (.block 0
    fn62L0))
  (.seq (.rg [⟨(some 6), none, .mv (.c (.bool true))⟩] [6])
  .ret)))),
  [.t 6]⟩

/- spillway/vector.Same$1 -/
def an63 : Ann := [[2, 3], [2], [4]]
def fn63 : Vs.Fn := ⟨2,
  (.seq (.rg [⟨(some 2), none, .box 3 (.t 0)⟩,
      ⟨(some 3), none, .box 3 (.t 1)⟩,
      ⟨(some 4), none, .mv (.c (.bool false))⟩] [2, 3])
  (.seq (.rg [⟨(some 5), none, .fad 1 (.t 2)⟩,
      ⟨(some 6), none, .load true 2 (.t 5) false⟩,
      ⟨(some 7), none, .fad 1 (.t 3)⟩,
      ⟨(some 8), none, .load true 2 (.t 7) false⟩,
      ⟨(some 9), none, .eqs false [0, 1] (.t 6) (.t 8)⟩,
      ⟨(some 10), none, .mv (.t 9)⟩,
      ⟨(some 11), some (10, true), .fad 0 (.t 2)⟩,
      ⟨(some 12), some (10, true), .load false 1 (.t 11) false⟩,
      ⟨(some 13), some (10, true), .fad 0 (.t 3)⟩,
      ⟨(some 14), some (10, true), .load false 1 (.t 13) false⟩,
      ⟨(some 15), some (10, true), .call 2 (.f 64) [(.t 12), (.t 14)]⟩,
      ⟨(some 16), none, .pick (.t 10) (.t 15) (.c (.bool false))⟩,
      ⟨(some 4), none, .mv (.t 16)⟩] [4])
  .ret)),
  [.t 4]⟩

/- slices.Equal[[]spillway/api.Pair,spillway/api.Pair] -/
def an64 : Ann := [[0, 1], [0, 1, 10], [4], [0, 1, 12, 13], [0, 1, 12, 13], [0, 1, 12, 13, 14], [0, 1, 5, 12, 13], [0, 1, 12, 13, 24], [4], [0, 1, 12, 13], [4]]
def fn64B0 : Cd :=
  (.seq (.rg [⟨(some 14), none, .bin .lss (.t 13) (.t 12)⟩] [0, 1, 12, 13, 14])
  (.seq (.cond (.t 14)
    .skip
    (.exit 0))
  (.seq (.block 1
    (.seq (.rg [⟨(some 15), none, .mv (.t 13)⟩,
        ⟨(some 5), none, .mv (.t 15)⟩] [0, 1, 5, 12, 13])
    (.seq (.rg [⟨(some 16), none, .mv (.t 0)⟩,
        ⟨(some 17), none, .mv (.t 5)⟩,
        ⟨(some 18), none, .iad 2 (.t 16) (.t 17)⟩,
        ⟨(some 19), none, .load true 2 (.t 18) false⟩,
        ⟨(some 20), none, .mv (.t 1)⟩,
        ⟨(some 21), none, .mv (.t 5)⟩,
        ⟨(some 22), none, .iad 2 (.t 20) (.t 21)⟩,
        ⟨(some 23), none, .load true 2 (.t 22) false⟩,
        ⟨(some 24), none, .eqs true [2, 2] (.t 19) (.t 23)⟩] [0, 1, 12, 13, 24])
    (.cond (.t 24)
      (.seq (.rg [⟨(some 4), none, .mv (.c (.bool false))⟩] [4])
      .ret)
      .skip))))
  (.rg [⟨(some 25), none, .bin .add (.t 13) (.c (.int .i64 1))⟩,
      ⟨(some 13), none, .mv (.t 25)⟩] [0, 1, 12, 13]))))
def fn64L0 : Cd := .loop [0, 1, 12, 13] fn64B0
def fn64 : Vs.Fn := ⟨2,
  (.seq (.rg [⟨(some 4), none, .mv (.c (.bool false))⟩] [0, 1])
  (.seq (.seq (.rg [⟨(some 6), none, .mv (.t 0)⟩,
      ⟨(some 7), none, .len false (.t 6)⟩,
      ⟨(some 8), none, .mv (.t 1)⟩,
      ⟨(some 9), none, .len false (.t 8)⟩,
      ⟨(some 10), none, .bin .neq (.t 7) (.t 9)⟩] [0, 1, 10])
  (.cond (.t 10)
    (.seq (.rg [⟨(some 4), none, .mv (.c (.bool false))⟩] [4])
    .ret)
    .skip))
  (.seq (.seq (.rg [⟨(some 11), none, .mv (.t 0)⟩,
      ⟨(some 12), none, .len false (.t 11)⟩,
      ⟨(some 13), none, .mv (.c (.int .i64 0))⟩] [0, 1, 12, 13])
  (.block 0
    fn64L0))
  (.seq (.rg [⟨(some 4), none, .mv (.c (.bool true))⟩] [4])
  .ret)))),
  [.t 4]⟩

/- spillway/spillwayref3.Value -/
def an65 : Ann := [[0], [0, 3], [0, 3], [0, 3, 7], [0, 3, 13], [2], [0, 3], [2]]
def fn65B0 : Cd :=
  (.seq (.seq (.rg [⟨(some 4), none, .mv (.t 3)⟩,
      ⟨(some 5), none, .mv (.t 0)⟩,
      ⟨(some 6), none, .len true (.t 5)⟩,
      ⟨(some 7), none, .bin .lss (.t 4) (.t 6)⟩] [0, 3, 7])
  (.cond (.t 7)
    .skip
    (.exit 0)))
  (.seq (.block 1
    (.seq (.rg [⟨(some 10), none, .mv (.t 0)⟩,
        ⟨(some 11), none, .mv (.t 3)⟩,
        ⟨(some 12), none, .ist (.t 10) (.t 11)⟩,
        ⟨(some 13), none, .bin .eql (.t 12) (.c (.int .u8 10))⟩] [0, 3, 13])
    (.cond (.t 13)
      (.seq (.rg [⟨(some 2), none, .mv (.c (.bool false))⟩] [2])
      .ret)
      .skip)))
  (.rg [⟨(some 8), none, .mv (.t 3)⟩,
      ⟨(some 9), none, .bin .add (.t 8) (.c (.int .i64 1))⟩,
      ⟨(some 3), none, .mv (.t 9)⟩] [0, 3])))
def fn65L0 : Cd := .loop [0, 3] fn65B0
def fn65 : Vs.Fn := ⟨1,
  (.seq (.rg [⟨(some 2), none, .mv (.c (.bool false))⟩] [0])
  (.seq (.seq (.rg [⟨(some 3), none, .mv (.c (.int .i64 0))⟩] [0, 3])
  (.block 0
    fn65L0))
  (.seq (.rg [⟨(some 14), none, .mv (.t 0)⟩,
      ⟨(some 15), none, .len true (.t 14)⟩,
      ⟨(some 16), none, .bin .leq (.t 15) (.c (.int .i64 30))⟩,
      ⟨(some 2), none, .mv (.t 16)⟩] [2])
  .ret))),
  [.t 2]⟩

/- spillway/spillwayref3.less -/
def an66 : Ann := [[0, 1], [0, 1, 5], [4], [9], [4], [4]]
def fn66 : Vs.Fn := ⟨2,
  (.seq (.rg [⟨(some 4), none, .mv (.c (.int .i64 0))⟩] [0, 1])
  (.seq (.block 0
    (.seq (.rg [⟨(some 6), none, .mv (.t 0)⟩,
        ⟨(some 7), none, .mv (.t 1)⟩,
        ⟨(some 8), none, .bin .lss (.t 6) (.t 7)⟩,
        ⟨(some 5), none, .mv (.t 8)⟩] [0, 1, 5])
    (.cond (.t 5)
      (.seq (.rg [⟨(some 4), none, .mv (.c (.int .i64 (-1)))⟩] [4])
      .ret)
      (.seq (.rg [⟨(some 10), none, .mv (.t 0)⟩,
          ⟨(some 11), none, .mv (.t 1)⟩,
          ⟨(some 12), none, .bin .gtr (.t 10) (.t 11)⟩,
          ⟨(some 9), none, .mv (.t 12)⟩] [9])
      (.cond (.t 9)
        (.seq (.rg [⟨(some 4), none, .mv (.c (.int .i64 1))⟩] [4])
        .ret)
        .skip)))))
  (.seq (.rg [⟨(some 4), none, .mv (.c (.int .i64 0))⟩] [4])
  .ret))),
  [.t 4]⟩

/- math/bits.Mul64 -/
def an67 : Ann := [[0, 1], [0, 1, 6], [0, 1, 6, 7], [0, 1, 6, 7, 8], [0, 1, 6, 7, 8, 9], [0, 1, 6, 7, 8, 9, 10], [0, 1, 6, 7, 9, 11], [0, 1, 6, 7, 9, 11, 12], [0, 1, 6, 7, 9, 12, 13], [0, 1, 7, 9, 12, 13], [0, 1, 4], [4, 5]]
def fn67 : Vs.Fn := ⟨2,
  (.seq (.rg [⟨(some 4), none, .mv (.c (.int .u64 0))⟩,
      ⟨(some 5), none, .mv (.c (.int .u64 0))⟩] [0, 1])
  (.seq (.rg [⟨(some 14), none, .mv (.t 0)⟩,
      ⟨(some 15), none, .bin .and (.t 14) (.c (.int .u64 4294967295))⟩,
      ⟨(some 6), none, .mv (.t 15)⟩] [0, 1, 6])
  (.seq (.rg [⟨(some 16), none, .mv (.t 0)⟩,
      ⟨(some 17), none, .bin .shr (.t 16) (.c (.int .u64 32))⟩,
      ⟨(some 7), none, .mv (.t 17)⟩] [0, 1, 6, 7])
  (.seq (.rg [⟨(some 18), none, .mv (.t 1)⟩,
      ⟨(some 19), none, .bin .and (.t 18) (.c (.int .u64 4294967295))⟩,
      ⟨(some 8), none, .mv (.t 19)⟩] [0, 1, 6, 7, 8])
  (.seq (.rg [⟨(some 20), none, .mv (.t 1)⟩,
      ⟨(some 21), none, .bin .shr (.t 20) (.c (.int .u64 32))⟩,
      ⟨(some 9), none, .mv (.t 21)⟩] [0, 1, 6, 7, 8, 9])
  (.seq (.rg [⟨(some 22), none, .mv (.t 6)⟩,
      ⟨(some 23), none, .mv (.t 8)⟩,
      ⟨(some 24), none, .bin .mul (.t 22) (.t 23)⟩,
      ⟨(some 10), none, .mv (.t 24)⟩] [0, 1, 6, 7, 8, 9, 10])
  (.seq (.rg [⟨(some 25), none, .mv (.t 7)⟩,
      ⟨(some 26), none, .mv (.t 8)⟩,
      ⟨(some 27), none, .bin .mul (.t 25) (.t 26)⟩,
      ⟨(some 28), none, .mv (.t 10)⟩,
      ⟨(some 29), none, .bin .shr (.t 28) (.c (.int .u64 32))⟩,
      ⟨(some 30), none, .bin .add (.t 27) (.t 29)⟩,
      ⟨(some 11), none, .mv (.t 30)⟩] [0, 1, 6, 7, 9, 11])
  (.seq (.rg [⟨(some 31), none, .mv (.t 11)⟩,
      ⟨(some 32), none, .bin .and (.t 31) (.c (.int .u64 4294967295))⟩,
      ⟨(some 12), none, .mv (.t 32)⟩] [0, 1, 6, 7, 9, 11, 12])
  (.seq (.rg [⟨(some 33), none, .mv (.t 11)⟩,
      ⟨(some 34), none, .bin .shr (.t 33) (.c (.int .u64 32))⟩,
      ⟨(some 13), none, .mv (.t 34)⟩] [0, 1, 6, 7, 9, 12, 13])
  (.seq (.rg [⟨(some 35), none, .mv (.t 12)⟩,
      ⟨(some 36), none, .mv (.t 6)⟩,
      ⟨(some 37), none, .mv (.t 9)⟩,
      ⟨(some 38), none, .bin .mul (.t 36) (.t 37)⟩,
      ⟨(some 39), none, .bin .add (.t 35) (.t 38)⟩,
      ⟨(some 12), none, .mv (.t 39)⟩] [0, 1, 7, 9, 12, 13])
  (.seq (.rg [⟨(some 40), none, .mv (.t 7)⟩,
      ⟨(some 41), none, .mv (.t 9)⟩,
      ⟨(some 42), none, .bin .mul (.t 40) (.t 41)⟩,
      ⟨(some 43), none, .mv (.t 13)⟩,
      ⟨(some 44), none, .bin .add (.t 42) (.t 43)⟩,
      ⟨(some 45), none, .mv (.t 12)⟩,
      ⟨(some 46), none, .bin .shr (.t 45) (.c (.int .u64 32))⟩,
      ⟨(some 47), none, .bin .add (.t 44) (.t 46)⟩,
      ⟨(some 4), none, .mv (.t 47)⟩] [0, 1, 4])
  (.seq (.rg [⟨(some 48), none, .mv (.t 0)⟩,
      ⟨(some 49), none, .mv (.t 1)⟩,
      ⟨(some 50), none, .bin .mul (.t 48) (.t 49)⟩,
      ⟨(some 5), none, .mv (.t 50)⟩] [4, 5])
  .ret)))))))))))),
  [.t 4, .t 5]⟩

/- spillway/fix.ovf -/
def an68 : Ann := [[0], [0]]
def fn68 : Vs.Fn := ⟨0,
  (.seq (.rg [⟨(some 0), none, .alloc [(.bool false), (.int .i64 0)]⟩] [0])
  (.seq (.rg [⟨(some 1), none, .build [(.bool false), (.int .i64 0)] [(0, 1, (.c (.bool true)))]⟩,
      ⟨none, none, .store 2 (.t 0) (.t 1)⟩] [0])
  .ret)),
  [.cell 0 true 2]⟩

/- math/bits.Div64 -/
def an69 : Ann := [[0, 1, 2], [0, 1, 2, 20], [0, 1, 2], [0, 1, 2, 24], [0, 1, 2], [0, 1, 2, 27], [6, 7], [2], [0, 1, 2, 8], [0, 1, 2, 8], [0, 1, 2, 8, 9], [0, 1, 2, 8, 9, 10], [1, 2, 8, 9, 10, 11], [2, 8, 9, 10, 11, 12], [2, 8, 9, 10, 11, 12, 13], [2, 8, 9, 10, 11, 13, 14], [2, 8, 9, 10, 11, 13, 14, 15], [2, 8, 9, 10, 11, 13, 14, 15, 16], [2, 8, 9, 10, 11, 13, 14, 15, 16], [2, 8, 9, 10, 11, 13, 14, 15, 16, 78], [2, 8, 9, 10, 11, 13, 14, 15, 16], [2, 8, 9, 10, 11, 13, 14, 15, 16], [2, 8, 9, 10, 11, 13, 14, 15, 16, 85], [2, 8, 9, 10, 14, 15, 17], [2, 8, 9, 10, 14, 15, 17, 18], [2, 8, 9, 10, 14, 15, 16, 17, 18], [2, 8, 9, 10, 14, 15, 16, 17, 18], [2, 8, 9, 10, 14, 15, 16, 17, 18, 113], [2, 8, 9, 10, 14, 15, 16, 17, 18], [2, 8, 9, 10, 14, 15, 16, 17, 18], [2, 8, 9, 10, 14, 15, 16, 17, 18, 120], [6, 7]]
def fn69B0 : Cd :=
  (.seq (.seq (.rg [⟨(some 67), none, .mv (.t 15)⟩,
      ⟨(some 68), none, .bin .geq (.t 67) (.c (.int .u64 4294967296))⟩,
      ⟨(some 69), none, .mv (.t 68)⟩,
      ⟨(some 70), some (69, false), .mv (.t 15)⟩,
      ⟨(some 71), some (69, false), .mv (.t 10)⟩,
      ⟨(some 72), some (69, false), .bin .mul (.t 70) (.t 71)⟩,
      ⟨(some 73), some (69, false), .mv (.t 16)⟩,
      ⟨(some 74), some (69, false), .bin .mul (.c (.int .u64 4294967296)) (.t 73)⟩,
      ⟨(some 75), some (69, false), .mv (.t 13)⟩,
      ⟨(some 76), some (69, false), .bin .add (.t 74) (.t 75)⟩,
      ⟨(some 77), some (69, false), .bin .gtr (.t 72) (.t 76)⟩,
      ⟨(some 78), none, .pick (.t 69) (.c (.bool true)) (.t 77)⟩] [2, 8, 9, 10, 11, 13, 14, 15, 16, 78])
  (.cond (.t 78)
    .skip
    (.exit 0)))
  (.block 1
    (.seq (.rg [⟨(some 79), none, .mv (.t 15)⟩,
        ⟨(some 80), none, .bin .sub (.t 79) (.c (.int .u64 1))⟩,
        ⟨(some 15), none, .mv (.t 80)⟩] [2, 8, 9, 10, 11, 13, 14, 15, 16])
    (.seq (.rg [⟨(some 81), none, .mv (.t 16)⟩,
        ⟨(some 82), none, .mv (.t 9)⟩,
        ⟨(some 83), none, .bin .add (.t 81) (.t 82)⟩,
        ⟨(some 16), none, .mv (.t 83)⟩] [2, 8, 9, 10, 11, 13, 14, 15, 16])
    (.seq (.rg [⟨(some 84), none, .mv (.t 16)⟩,
        ⟨(some 85), none, .bin .geq (.t 84) (.c (.int .u64 4294967296))⟩] [2, 8, 9, 10, 11, 13, 14, 15, 16, 85])
    (.cond (.t 85)
      (.exit 0)
      .skip))))))
def fn69L0 : Cd := .loop [2, 8, 9, 10, 11, 13, 14, 15, 16] fn69B0
def fn69B1 : Cd :=
  (.seq (.seq (.rg [⟨(some 102), none, .mv (.t 18)⟩,
      ⟨(some 103), none, .bin .geq (.t 102) (.c (.int .u64 4294967296))⟩,
      ⟨(some 104), none, .mv (.t 103)⟩,
      ⟨(some 105), some (104, false), .mv (.t 18)⟩,
      ⟨(some 106), some (104, false), .mv (.t 10)⟩,
      ⟨(some 107), some (104, false), .bin .mul (.t 105) (.t 106)⟩,
      ⟨(some 108), some (104, false), .mv (.t 16)⟩,
      ⟨(some 109), some (104, false), .bin .mul (.c (.int .u64 4294967296)) (.t 108)⟩,
      ⟨(some 110), some (104, false), .mv (.t 14)⟩,
      ⟨(some 111), some (104, false), .bin .add (.t 109) (.t 110)⟩,
      ⟨(some 112), some (104, false), .bin .gtr (.t 107) (.t 111)⟩,
      ⟨(some 113), none, .pick (.t 104) (.c (.bool true)) (.t 112)⟩] [2, 8, 9, 10, 14, 15, 16, 17, 18, 113])
  (.cond (.t 113)
    .skip
    (.exit 2)))
  (.block 3
    (.seq (.rg [⟨(some 114), none, .mv (.t 18)⟩,
        ⟨(some 115), none, .bin .sub (.t 114) (.c (.int .u64 1))⟩,
        ⟨(some 18), none, .mv (.t 115)⟩] [2, 8, 9, 10, 14, 15, 16, 17, 18])
    (.seq (.rg [⟨(some 116), none, .mv (.t 16)⟩,
        ⟨(some 117), none, .mv (.t 9)⟩,
        ⟨(some 118), none, .bin .add (.t 116) (.t 117)⟩,
        ⟨(some 16), none, .mv (.t 118)⟩] [2, 8, 9, 10, 14, 15, 16, 17, 18])
    (.seq (.rg [⟨(some 119), none, .mv (.t 16)⟩,
        ⟨(some 120), none, .bin .geq (.t 119) (.c (.int .u64 4294967296))⟩] [2, 8, 9, 10, 14, 15, 16, 17, 18, 120])
    (.cond (.t 120)
      (.exit 2)
      .skip))))))
def fn69L1 : Cd := .loop [2, 8, 9, 10, 14, 15, 16, 17, 18] fn69B1
def fn69 : Vs.Fn := ⟨3,
  (.seq (.rg [⟨(some 6), none, .mv (.c (.int .u64 0))⟩,
      ⟨(some 7), none, .mv (.c (.int .u64 0))⟩] [0, 1, 2])
  (.seq (.seq (.rg [⟨(some 19), none, .mv (.t 2)⟩,
      ⟨(some 20), none, .bin .eql (.t 19) (.c (.int .u64 0))⟩] [0, 1, 2, 20])
  (.cond (.t 20)
    .bad
    .skip))
  (.seq (.seq (.rg [⟨(some 22), none, .mv (.t 2)⟩,
      ⟨(some 23), none, .mv (.t 0)⟩,
      ⟨(some 24), none, .bin .leq (.t 22) (.t 23)⟩] [0, 1, 2, 24])
  (.cond (.t 24)
    .bad
    .skip))
  (.seq (.seq (.rg [⟨(some 26), none, .mv (.t 0)⟩,
      ⟨(some 27), none, .bin .eql (.t 26) (.c (.int .u64 0))⟩] [0, 1, 2, 27])
  (.cond (.t 27)
    (.seq (.rg [⟨(some 28), none, .mv (.t 1)⟩,
        ⟨(some 29), none, .mv (.t 2)⟩,
        ⟨(some 30), none, .bin .quo (.t 28) (.t 29)⟩,
        ⟨(some 31), none, .mv (.t 1)⟩,
        ⟨(some 32), none, .mv (.t 2)⟩,
        ⟨(some 33), none, .bin .rem (.t 31) (.t 32)⟩,
        ⟨(some 6), none, .mv (.t 30)⟩,
        ⟨(some 7), none, .mv (.t 33)⟩] [6, 7])
    .ret)
    .skip))
  (.seq (.rg [⟨(some 34), none, .mv (.t 2)⟩,
      ⟨(some 35), none, .call 2 (.f 76) [(.t 34)]⟩,
      ⟨(some 36), none, .cvi .u64 (.t 35)⟩,
      ⟨(some 8), none, .mv (.t 36)⟩] [0, 1, 2, 8])
  (.seq (.rg [⟨(some 37), none, .mv (.t 2)⟩,
      ⟨(some 38), none, .mv (.t 8)⟩,
      ⟨(some 39), none, .bin .shl (.t 37) (.t 38)⟩,
      ⟨(some 2), none, .mv (.t 39)⟩] [0, 1, 2, 8])
  (.seq (.rg [⟨(some 40), none, .mv (.t 2)⟩,
      ⟨(some 41), none, .bin .shr (.t 40) (.c (.int .u64 32))⟩,
      ⟨(some 9), none, .mv (.t 41)⟩] [0, 1, 2, 8, 9])
  (.seq (.rg [⟨(some 42), none, .mv (.t 2)⟩,
      ⟨(some 43), none, .bin .and (.t 42) (.c (.int .u64 4294967295))⟩,
      ⟨(some 10), none, .mv (.t 43)⟩] [0, 1, 2, 8, 9, 10])
  (.seq (.rg [⟨(some 44), none, .mv (.t 0)⟩,
      ⟨(some 45), none, .mv (.t 8)⟩,
      ⟨(some 46), none, .bin .shl (.t 44) (.t 45)⟩,
      ⟨(some 47), none, .mv (.t 1)⟩,
      ⟨(some 48), none, .mv (.t 8)⟩,
      ⟨(some 49), none, .bin .sub (.c (.int .u64 64)) (.t 48)⟩,
      ⟨(some 50), none, .bin .shr (.t 47) (.t 49)⟩,
      ⟨(some 51), none, .bin .or (.t 46) (.t 50)⟩,
      ⟨(some 11), none, .mv (.t 51)⟩] [1, 2, 8, 9, 10, 11])
  (.seq (.rg [⟨(some 52), none, .mv (.t 1)⟩,
      ⟨(some 53), none, .mv (.t 8)⟩,
      ⟨(some 54), none, .bin .shl (.t 52) (.t 53)⟩,
      ⟨(some 12), none, .mv (.t 54)⟩] [2, 8, 9, 10, 11, 12])
  (.seq (.rg [⟨(some 55), none, .mv (.t 12)⟩,
      ⟨(some 56), none, .bin .shr (.t 55) (.c (.int .u64 32))⟩,
      ⟨(some 13), none, .mv (.t 56)⟩] [2, 8, 9, 10, 11, 12, 13])
  (.seq (.rg [⟨(some 57), none, .mv (.t 12)⟩,
      ⟨(some 58), none, .bin .and (.t 57) (.c (.int .u64 4294967295))⟩,
      ⟨(some 14), none, .mv (.t 58)⟩] [2, 8, 9, 10, 11, 13, 14])
  (.seq (.rg [⟨(some 59), none, .mv (.t 11)⟩,
      ⟨(some 60), none, .mv (.t 9)⟩,
      ⟨(some 61), none, .bin .quo (.t 59) (.t 60)⟩,
      ⟨(some 15), none, .mv (.t 61)⟩] [2, 8, 9, 10, 11, 13, 14, 15])
  (.seq (.rg [⟨(some 62), none, .mv (.t 11)⟩,
      ⟨(some 63), none, .mv (.t 15)⟩,
      ⟨(some 64), none, .mv (.t 9)⟩,
      ⟨(some 65), none, .bin .mul (.t 63) (.t 64)⟩,
      ⟨(some 66), none, .bin .sub (.t 62) (.t 65)⟩,
      ⟨(some 16), none, .mv (.t 66)⟩] [2, 8, 9, 10, 11, 13, 14, 15, 16])
  (.seq (.block 0
    fn69L0)
  (.seq (.rg [⟨(some 86), none, .mv (.t 11)⟩,
      ⟨(some 87), none, .bin .mul (.t 86) (.c (.int .u64 4294967296))⟩,
      ⟨(some 88), none, .mv (.t 13)⟩,
      ⟨(some 89), none, .bin .add (.t 87) (.t 88)⟩,
      ⟨(some 90), none, .mv (.t 15)⟩,
      ⟨(some 91), none, .mv (.t 2)⟩,
      ⟨(some 92), none, .bin .mul (.t 90) (.t 91)⟩,
      ⟨(some 93), none, .bin .sub (.t 89) (.t 92)⟩,
      ⟨(some 17), none, .mv (.t 93)⟩] [2, 8, 9, 10, 14, 15, 17])
  (.seq (.rg [⟨(some 94), none, .mv (.t 17)⟩,
      ⟨(some 95), none, .mv (.t 9)⟩,
      ⟨(some 96), none, .bin .quo (.t 94) (.t 95)⟩,
      ⟨(some 18), none, .mv (.t 96)⟩] [2, 8, 9, 10, 14, 15, 17, 18])
  (.seq (.rg [⟨(some 97), none, .mv (.t 17)⟩,
      ⟨(some 98), none, .mv (.t 18)⟩,
      ⟨(some 99), none, .mv (.t 9)⟩,
      ⟨(some 100), none, .bin .mul (.t 98) (.t 99)⟩,
      ⟨(some 101), none, .bin .sub (.t 97) (.t 100)⟩,
      ⟨(some 16), none, .mv (.t 101)⟩] [2, 8, 9, 10, 14, 15, 16, 17, 18])
  (.seq (.block 2
    fn69L1)
  (.seq (.rg [⟨(some 121), none, .mv (.t 15)⟩,
      ⟨(some 122), none, .bin .mul (.t 121) (.c (.int .u64 4294967296))⟩,
      ⟨(some 123), none, .mv (.t 18)⟩,
      ⟨(some 124), none, .bin .add (.t 122) (.t 123)⟩,
      ⟨(some 125), none, .mv (.t 17)⟩,
      ⟨(some 126), none, .bin .mul (.t 125) (.c (.int .u64 4294967296))⟩,
      ⟨(some 127), none, .mv (.t 14)⟩,
      ⟨(some 128), none, .bin .add (.t 126) (.t 127)⟩,
      ⟨(some 129), none, .mv (.t 18)⟩,
      ⟨(some 130), none, .mv (.t 2)⟩,
      ⟨(some 131), none, .bin .mul (.t 129) (.t 130)⟩,
      ⟨(some 132), none, .bin .sub (.t 128) (.t 131)⟩,
      ⟨(some 133), none, .mv (.t 8)⟩,
      ⟨(some 134), none, .bin .shr (.t 132) (.t 133)⟩,
      ⟨(some 6), none, .mv (.t 124)⟩,
      ⟨(some 7), none, .mv (.t 134)⟩] [6, 7])
  .ret)))))))))))))))))))),
  [.t 6, .t 7]⟩

/- slices.stableCmpFunc[spillway/api.Row] -/
def an70 : Ann := [[0, 1, 2, 6], [0, 1, 2, 6, 7, 8], [0, 1, 2, 6, 7, 8], [0, 1, 2, 6, 7, 8, 13], [0], [0, 1, 2, 6, 8], [0, 1, 2, 6, 7, 8], [0, 1, 2, 6, 7, 8], [0], [0, 1, 2, 6], [0, 1, 2, 6], [0, 1, 2, 6, 30], [0, 1, 2, 6, 7, 8], [0, 1, 2, 6, 7, 8], [0, 1, 2, 6, 7, 8, 35], [0], [0, 1, 2, 6, 8], [0, 1, 2, 6, 7, 8], [0, 1, 2, 6, 7, 8], [0, 1, 2, 6, 7, 9], [0, 1, 2, 6, 7, 9, 54], [0], [0, 1, 2, 6], [0, 1, 2, 6]]
def fn70B0 : Cd :=
  (.seq (.seq (.rg [⟨(some 11), none, .mv (.t 8)⟩,
      ⟨(some 12), none, .mv (.t 1)⟩,
      ⟨(some 13), none, .bin .leq (.t 11) (.t 12)⟩] [0, 1, 2, 6, 7, 8, 13])
  (.cond (.t 13)
    .skip
    (.exit 0)))
  (.block 1
    (.seq (.rg [⟨(some 14), none, .mv (.t 0)⟩,
        ⟨(some 15), none, .mv (.t 7)⟩,
        ⟨(some 16), none, .mv (.t 8)⟩,
        ⟨(some 17), none, .mv (.t 2)⟩,
        ⟨(some 18), none, .call 0 (.f 77) [(.t 14), (.t 15), (.t 16), (.t 17)]⟩] [0, 1, 2, 6, 8])
    (.seq (.rg [⟨(some 19), none, .mv (.t 8)⟩,
        ⟨(some 7), none, .mv (.t 19)⟩] [0, 1, 2, 6, 7, 8])
    (.rg [⟨(some 20), none, .mv (.t 8)⟩,
        ⟨(some 21), none, .mv (.t 6)⟩,
        ⟨(some 22), none, .bin .add (.t 20) (.t 21)⟩,
        ⟨(some 8), none, .mv (.t 22)⟩] [0, 1, 2, 6, 7, 8])))))
def fn70L0 : Cd := .loop [0, 1, 2, 6, 7, 8] fn70B0
def fn70B1 : Cd :=
  (.seq (.seq (.rg [⟨(some 33), none, .mv (.t 8)⟩,
      ⟨(some 34), none, .mv (.t 1)⟩,
      ⟨(some 35), none, .bin .leq (.t 33) (.t 34)⟩] [0, 1, 2, 6, 7, 8, 35])
  (.cond (.t 35)
    .skip
    (.exit 4)))
  (.block 5
    (.seq (.rg [⟨(some 36), none, .mv (.t 0)⟩,
        ⟨(some 37), none, .mv (.t 7)⟩,
        ⟨(some 38), none, .mv (.t 7)⟩,
        ⟨(some 39), none, .mv (.t 6)⟩,
        ⟨(some 40), none, .bin .add (.t 38) (.t 39)⟩,
        ⟨(some 41), none, .mv (.t 8)⟩,
        ⟨(some 42), none, .mv (.t 2)⟩,
        ⟨(some 43), none, .call 0 (.f 78) [(.t 36), (.t 37), (.t 40), (.t 41), (.t 42)]⟩] [0, 1, 2, 6, 8])
    (.seq (.rg [⟨(some 44), none, .mv (.t 8)⟩,
        ⟨(some 7), none, .mv (.t 44)⟩] [0, 1, 2, 6, 7, 8])
    (.rg [⟨(some 45), none, .mv (.t 8)⟩,
        ⟨(some 46), none, .mv (.t 6)⟩,
        ⟨(some 47), none, .bin .mul (.c (.int .i64 2)) (.t 46)⟩,
        ⟨(some 48), none, .bin .add (.t 45) (.t 47)⟩,
        ⟨(some 8), none, .mv (.t 48)⟩] [0, 1, 2, 6, 7, 8])))))
def fn70L1 : Cd := .loop [0, 1, 2, 6, 7, 8] fn70B1
def fn70B2 : Cd :=
  (.seq (.seq (.rg [⟨(some 28), none, .mv (.t 6)⟩,
      ⟨(some 29), none, .mv (.t 1)⟩,
      ⟨(some 30), none, .bin .lss (.t 28) (.t 29)⟩] [0, 1, 2, 6, 30])
  (.cond (.t 30)
    .skip
    (.exit 2)))
  (.block 3
    (.seq (.rg [⟨(some 31), none, .mv (.t 6)⟩,
        ⟨(some 32), none, .bin .mul (.c (.int .i64 2)) (.t 31)⟩,
        ⟨(some 7), none, .mv (.c (.int .i64 0))⟩,
        ⟨(some 8), none, .mv (.t 32)⟩] [0, 1, 2, 6, 7, 8])
    (.seq (.block 4
      fn70L1)
    (.seq (.seq (.rg [⟨(some 49), none, .mv (.t 7)⟩,
        ⟨(some 50), none, .mv (.t 6)⟩,
        ⟨(some 51), none, .bin .add (.t 49) (.t 50)⟩,
        ⟨(some 9), none, .mv (.t 51)⟩] [0, 1, 2, 6, 7, 9])
    (.seq (.rg [⟨(some 52), none, .mv (.t 9)⟩,
        ⟨(some 53), none, .mv (.t 1)⟩,
        ⟨(some 54), none, .bin .lss (.t 52) (.t 53)⟩] [0, 1, 2, 6, 7, 9, 54])
    (.cond (.t 54)
      (.rg [⟨(some 55), none, .mv (.t 0)⟩,
          ⟨(some 56), none, .mv (.t 7)⟩,
          ⟨(some 57), none, .mv (.t 9)⟩,
          ⟨(some 58), none, .mv (.t 1)⟩,
          ⟨(some 59), none, .mv (.t 2)⟩,
          ⟨(some 60), none, .call 0 (.f 78) [(.t 55), (.t 56), (.t 57), (.t 58), (.t 59)]⟩] [0, 1, 2, 6])
      .skip)))
    (.rg [⟨(some 61), none, .mv (.t 6)⟩,
        ⟨(some 62), none, .bin .mul (.t 61) (.c (.int .i64 2))⟩,
        ⟨(some 6), none, .mv (.t 62)⟩] [0, 1, 2, 6]))))))
def fn70L2 : Cd := .loop [0, 1, 2, 6] fn70B2
def fn70 : Vs.Fn := ⟨3,
  (.seq (.rg [⟨(some 6), none, .mv (.c (.int .i64 20))⟩] [0, 1, 2, 6])
  (.seq (.rg [⟨(some 10), none, .mv (.t 6)⟩,
      ⟨(some 7), none, .mv (.c (.int .i64 0))⟩,
      ⟨(some 8), none, .mv (.t 10)⟩] [0, 1, 2, 6, 7, 8])
  (.seq (.block 0
    fn70L0)
  (.seq (.rg [⟨(some 23), none, .mv (.t 0)⟩,
      ⟨(some 24), none, .mv (.t 7)⟩,
      ⟨(some 25), none, .mv (.t 1)⟩,
      ⟨(some 26), none, .mv (.t 2)⟩,
      ⟨(some 27), none, .call 0 (.f 77) [(.t 23), (.t 24), (.t 25), (.t 26)]⟩] [0, 1, 2, 6])
  (.block 2
    fn70L2))))),
  []⟩

/- slices.CompareFunc[[]spillway/api.Pair,[]spillway/api.Pair,spillway/api.Pair,spillway/api.Pair] -/
def an71 : Ann := [[0, 1, 2], [0, 1, 2, 11, 12, 13], [0, 1, 2, 11, 12, 13], [0, 1, 2, 11, 12, 13, 14], [0, 1, 2, 7, 8, 11, 12, 13], [0, 1, 2, 7, 8, 11, 12, 13, 21], [6], [0, 1, 2, 8, 9, 11, 12, 13], [2], [0, 1, 2, 10, 11, 12, 13], [0, 1, 2, 10, 11, 12, 13, 31], [6], [0, 1, 2, 11, 12, 13], [38], [6], [6]]
def fn71B0 : Cd :=
  (.seq (.rg [⟨(some 14), none, .bin .lss (.t 13) (.t 12)⟩] [0, 1, 2, 11, 12, 13, 14])
  (.seq (.cond (.t 14)
    .skip
    (.exit 0))
  (.seq (.block 1
    (.seq (.rg [⟨(some 15), none, .mv (.t 13)⟩,
        ⟨(some 16), none, .iad 2 (.t 11) (.t 13)⟩,
        ⟨(some 17), none, .load true 2 (.t 16) false⟩,
        ⟨(some 8), none, .alloc [(.str ⟨#[]⟩), (.str ⟨#[]⟩)]⟩,
        ⟨(some 7), none, .mv (.t 15)⟩,
        ⟨none, none, .store 2 (.t 8) (.t 17)⟩] [0, 1, 2, 7, 8, 11, 12, 13])
    (.seq (.seq (.rg [⟨(some 18), none, .mv (.t 7)⟩,
        ⟨(some 19), none, .mv (.t 1)⟩,
        ⟨(some 20), none, .len false (.t 19)⟩,
        ⟨(some 21), none, .bin .geq (.t 18) (.t 20)⟩] [0, 1, 2, 7, 8, 11, 12, 13, 21])
    (.cond (.t 21)
      (.seq (.rg [⟨(some 6), none, .mv (.c (.int .i64 1))⟩] [6])
      .ret)
      .skip))
    (.seq (.rg [⟨(some 22), none, .mv (.t 1)⟩,
        ⟨(some 23), none, .mv (.t 7)⟩,
        ⟨(some 24), none, .iad 2 (.t 22) (.t 23)⟩,
        ⟨(some 25), none, .load true 2 (.t 24) false⟩,
        ⟨(some 9), none, .alloc [(.str ⟨#[]⟩), (.str ⟨#[]⟩)]⟩,
        ⟨none, none, .store 2 (.t 9) (.t 25)⟩] [0, 1, 2, 8, 9, 11, 12, 13])
    (.seq (.rg [⟨(some 26), none, .mv (.t 2)⟩,
        ⟨(some 27), none, .load true 2 (.t 8) false⟩,
        ⟨(some 28), none, .load true 2 (.t 9) false⟩,
        ⟨(some 29), none, .call 2 (.t 26) [(.t 27), (.t 28)]⟩,
        ⟨(some 10), none, .mv (.t 29)⟩] [0, 1, 2, 10, 11, 12, 13])
    (.seq (.rg [⟨(some 30), none, .mv (.t 10)⟩,
        ⟨(some 31), none, .bin .neq (.t 30) (.c (.int .i64 0))⟩] [0, 1, 2, 10, 11, 12, 13, 31])
    (.cond (.t 31)
      (.seq (.rg [⟨(some 32), none, .mv (.t 10)⟩,
          ⟨(some 6), none, .mv (.t 32)⟩] [6])
      .ret)
      .skip)))))))
  (.rg [⟨(some 33), none, .bin .add (.t 13) (.c (.int .i64 1))⟩,
      ⟨(some 13), none, .mv (.t 33)⟩] [0, 1, 2, 11, 12, 13]))))
def fn71L0 : Cd := .loop [0, 1, 2, 11, 12, 13] fn71B0
def fn71 : Vs.Fn := ⟨3,
  (.seq (.rg [⟨(some 6), none, .mv (.c (.int .i64 0))⟩] [0, 1, 2])
  (.seq (.seq (.rg [⟨(some 11), none, .mv (.t 0)⟩,
      ⟨(some 12), none, .len false (.t 11)⟩,
      ⟨(some 13), none, .mv (.c (.int .i64 0))⟩] [0, 1, 2, 11, 12, 13])
  (.block 0
    fn71L0))
  (.seq (.seq (.rg [⟨(some 34), none, .mv (.t 0)⟩,
      ⟨(some 35), none, .len false (.t 34)⟩,
      ⟨(some 36), none, .mv (.t 1)⟩,
      ⟨(some 37), none, .len false (.t 36)⟩,
      ⟨(some 38), none, .bin .lss (.t 35) (.t 37)⟩] [38])
  (.cond (.t 38)
    (.seq (.rg [⟨(some 6), none, .mv (.c (.int .i64 (-1)))⟩] [6])
    .ret)
    .skip))
  (.seq (.rg [⟨(some 6), none, .mv (.c (.int .i64 0))⟩] [6])
  .ret)))),
  [.t 6]⟩

/- spillway/label.Cmp$1 -/
def an72 : Ann := [[2, 3], [2], [2], [2], [4]]
def fn72 : Vs.Fn := ⟨2,
  (.seq (.rg [⟨(some 2), none, .box 2 (.t 0)⟩,
      ⟨(some 3), none, .box 2 (.t 1)⟩,
      ⟨(some 4), none, .mv (.c (.int .i64 0))⟩] [2, 3])
  (.seq (.rg [⟨(some 5), none, .fad 0 (.t 2)⟩,
      ⟨(some 6), none, .load false 1 (.t 5) false⟩,
      ⟨(some 7), none, .fad 0 (.t 3)⟩,
      ⟨(some 8), none, .load false 1 (.t 7) false⟩,
      ⟨(some 9), none, .call 2 (.f 74) [(.t 6), (.t 8)]⟩,
      ⟨(some 10), none, .fad 1 (.t 2)⟩,
      ⟨(some 11), none, .load false 1 (.t 10) false⟩,
      ⟨(some 12), none, .fad 1 (.t 3)⟩,
      ⟨(some 13), none, .load false 1 (.t 12) false⟩,
      ⟨(some 14), none, .call 2 (.f 74) [(.t 11), (.t 13)]⟩,
      ⟨(some 15), none, .bslice 2 1 [(.int .i64 0)] [(0, (.t 9)), (1, (.t 14))]⟩,
      ⟨(some 16), none, .call 2 (.f 73) [(.t 15)]⟩,
      ⟨(some 4), none, .mv (.t 16)⟩] [4])
  .ret)),
  [.t 4]⟩

/- cmp.Or[int] -/
def an73 : Ann := [[0], [0, 3], [3, 6, 7, 8], [3, 6, 7, 8], [3, 6, 7, 8, 9], [3, 5, 6, 7, 8], [3, 5, 6, 7, 8, 14], [2], [3, 6, 7, 8], [2]]
def fn73B0 : Cd :=
  (.seq (.rg [⟨(some 9), none, .bin .lss (.t 8) (.t 7)⟩] [3, 6, 7, 8, 9])
  (.seq (.cond (.t 9)
    .skip
    (.exit 0))
  (.seq (.block 1
    (.seq (.rg [⟨(some 10), none, .iad 1 (.t 6) (.t 8)⟩,
        ⟨(some 11), none, .load false 1 (.t 10) false⟩,
        ⟨(some 5), none, .mv (.t 11)⟩] [3, 5, 6, 7, 8])
    (.seq (.rg [⟨(some 12), none, .mv (.t 5)⟩,
        ⟨(some 13), none, .mv (.t 3)⟩,
        ⟨(some 14), none, .bin .neq (.t 12) (.t 13)⟩] [3, 5, 6, 7, 8, 14])
    (.cond (.t 14)
      (.seq (.rg [⟨(some 15), none, .mv (.t 5)⟩,
          ⟨(some 2), none, .mv (.t 15)⟩] [2])
      .ret)
      .skip))))
  (.rg [⟨(some 16), none, .bin .add (.t 8) (.c (.int .i64 1))⟩,
      ⟨(some 8), none, .mv (.t 16)⟩] [3, 6, 7, 8]))))
def fn73L0 : Cd := .loop [3, 6, 7, 8] fn73B0
def fn73 : Vs.Fn := ⟨1,
  (.seq (.rg [⟨(some 2), none, .mv (.c (.int .i64 0))⟩] [0])
  (.seq (.rg [⟨(some 3), none, .mv (.c (.int .i64 0))⟩] [0, 3])
  (.seq (.seq (.rg [⟨(some 6), none, .mv (.t 0)⟩,
      ⟨(some 7), none, .len false (.t 6)⟩,
      ⟨(some 8), none, .mv (.c (.int .i64 0))⟩] [3, 6, 7, 8])
  (.block 0
    fn73L0))
  (.seq (.rg [⟨(some 17), none, .mv (.t 3)⟩,
      ⟨(some 2), none, .mv (.t 17)⟩] [2])
  .ret)))),
  [.t 2]⟩

/- strings.Compare -/
def an74 : Ann := [[0, 1], [2], [4]]
def fn74 : Vs.Fn := ⟨2,
  (.seq (.rg [⟨(some 4), none, .mv (.c (.int .i64 0))⟩] [0, 1])
  (.seq (.rg [⟨(some 5), none, .mv (.t 0)⟩,
      ⟨(some 6), none, .mv (.t 1)⟩,
      ⟨(some 7), none, .call 2 (.f 79) [(.t 5), (.t 6)]⟩,
      ⟨(some 4), none, .mv (.t 7)⟩] [4])
  .ret)),
  [.t 4]⟩

/- spillway/label.value -/
def an75 : Ann := [[0], [2], [2]]
def fn75 : Vs.Fn := ⟨1,
  (.seq (.rg [⟨(some 2), none, .mv (.c (.bool false))⟩] [0])
  (.seq (.rg [⟨(some 3), none, .mv (.t 0)⟩,
      ⟨(some 4), none, .len true (.t 3)⟩,
      ⟨(some 5), none, .bin .geq (.t 4) (.c (.int .i64 1))⟩,
      ⟨(some 6), none, .mv (.t 5)⟩,
      ⟨(some 7), some (6, true), .mv (.t 0)⟩,
      ⟨(some 8), some (6, true), .len true (.t 7)⟩,
      ⟨(some 9), some (6, true), .bin .leq (.t 8) (.c (.int .i64 30))⟩,
      ⟨(some 10), none, .pick (.t 6) (.t 9) (.c (.bool false))⟩,
      ⟨(some 11), none, .mv (.t 10)⟩,
      ⟨(some 12), some (11, true), .mv (.t 0)⟩,
      ⟨(some 13), some (11, true), .call 2 (.f 80) [(.t 12), (.c (.int .u8 10))]⟩,
      ⟨(some 14), some (11, true), .bin .lss (.t 13) (.c (.int .i64 0))⟩,
      ⟨(some 15), none, .pick (.t 11) (.t 14) (.c (.bool false))⟩,
      ⟨(some 2), none, .mv (.t 15)⟩] [2])
  .ret)),
  [.t 2]⟩

/- math/bits.LeadingZeros64 -/
def an76 : Ann := [[0], [2], [2]]
def fn76 : Vs.Fn := ⟨1,
  (.seq (.rg [⟨(some 2), none, .mv (.c (.int .i64 0))⟩] [0])
  (.seq (.rg [⟨(some 3), none, .mv (.t 0)⟩,
      ⟨(some 4), none, .call 2 (.f 81) [(.t 3)]⟩,
      ⟨(some 5), none, .bin .sub (.c (.int .i64 64)) (.t 4)⟩,
      ⟨(some 2), none, .mv (.t 5)⟩] [2])
  .ret)),
  [.t 2]⟩

/- slices.insertionSortCmpFunc[spillway/api.Row] -/
def an77 : Ann := [[0, 1, 2, 3, 8], [0, 1, 2, 3, 8], [0, 1, 2, 3, 8, 14], [0, 1, 2, 3, 8, 9], [0, 1, 2, 3, 8, 9], [2], [0, 1, 2, 3, 8, 9, 34], [0, 1, 2, 3, 8, 9], [0, 1, 2, 3, 8, 9], [0, 1, 2, 3, 8]]
def fn77B0 : Cd :=
  (.seq (.seq (.rg [⟨(some 18), none, .mv (.t 9)⟩,
      ⟨(some 19), none, .mv (.t 1)⟩,
      ⟨(some 20), none, .bin .gtr (.t 18) (.t 19)⟩,
      ⟨(some 21), none, .mv (.t 20)⟩,
      ⟨(some 22), some (21, true), .mv (.t 3)⟩,
      ⟨(some 23), some (21, true), .mv (.t 0)⟩,
      ⟨(some 24), some (21, true), .mv (.t 9)⟩,
      ⟨(some 25), some (21, true), .iad 3 (.t 23) (.t 24)⟩,
      ⟨(some 26), some (21, true), .load true 3 (.t 25) false⟩,
      ⟨(some 27), some (21, true), .mv (.t 0)⟩,
      ⟨(some 28), some (21, true), .mv (.t 9)⟩,
      ⟨(some 29), some (21, true), .bin .sub (.t 28) (.c (.int .i64 1))⟩,
      ⟨(some 30), some (21, true), .iad 3 (.t 27) (.t 29)⟩,
      ⟨(some 31), some (21, true), .load true 3 (.t 30) false⟩,
      ⟨(some 32), some (21, true), .call 2 (.t 22) [(.t 26), (.t 31)]⟩,
      ⟨(some 33), some (21, true), .bin .lss (.t 32) (.c (.int .i64 0))⟩,
      ⟨(some 34), none, .pick (.t 21) (.t 33) (.c (.bool false))⟩] [0, 1, 2, 3, 8, 9, 34])
  (.cond (.t 34)
    .skip
    (.exit 2)))
  (.seq (.block 3
    (.rg [⟨(some 37), none, .mv (.t 0)⟩,
        ⟨(some 38), none, .mv (.t 9)⟩,
        ⟨(some 39), none, .mv (.t 0)⟩,
        ⟨(some 40), none, .mv (.t 9)⟩,
        ⟨(some 41), none, .bin .sub (.t 40) (.c (.int .i64 1))⟩,
        ⟨(some 42), none, .mv (.t 0)⟩,
        ⟨(some 43), none, .mv (.t 9)⟩,
        ⟨(some 44), none, .bin .sub (.t 43) (.c (.int .i64 1))⟩,
        ⟨(some 45), none, .iad 3 (.t 42) (.t 44)⟩,
        ⟨(some 46), none, .load true 3 (.t 45) false⟩,
        ⟨(some 47), none, .mv (.t 0)⟩,
        ⟨(some 48), none, .mv (.t 9)⟩,
        ⟨(some 49), none, .iad 3 (.t 47) (.t 48)⟩,
        ⟨(some 50), none, .load true 3 (.t 49) false⟩,
        ⟨(some 51), none, .iad 3 (.t 37) (.t 38)⟩,
        ⟨none, none, .store 3 (.t 51) (.t 46)⟩,
        ⟨(some 52), none, .iad 3 (.t 39) (.t 41)⟩,
        ⟨none, none, .store 3 (.t 52) (.t 50)⟩] [0, 1, 2, 3, 8, 9]))
  (.rg [⟨(some 35), none, .mv (.t 9)⟩,
      ⟨(some 36), none, .bin .sub (.t 35) (.c (.int .i64 1))⟩,
      ⟨(some 9), none, .mv (.t 36)⟩] [0, 1, 2, 3, 8, 9])))
def fn77L0 : Cd := .loop [0, 1, 2, 3, 8, 9] fn77B0
def fn77B1 : Cd :=
  (.seq (.seq (.rg [⟨(some 12), none, .mv (.t 8)⟩,
      ⟨(some 13), none, .mv (.t 2)⟩,
      ⟨(some 14), none, .bin .lss (.t 12) (.t 13)⟩] [0, 1, 2, 3, 8, 14])
  (.cond (.t 14)
    .skip
    (.exit 0)))
  (.seq (.block 1
    (.seq (.rg [⟨(some 17), none, .mv (.t 8)⟩,
        ⟨(some 9), none, .mv (.t 17)⟩] [0, 1, 2, 3, 8, 9])
    (.block 2
      fn77L0)))
  (.rg [⟨(some 15), none, .mv (.t 8)⟩,
      ⟨(some 16), none, .bin .add (.t 15) (.c (.int .i64 1))⟩,
      ⟨(some 8), none, .mv (.t 16)⟩] [0, 1, 2, 3, 8])))
def fn77L1 : Cd := .loop [0, 1, 2, 3, 8] fn77B1
def fn77 : Vs.Fn := ⟨4,
  (.seq (.rg [⟨(some 10), none, .mv (.t 1)⟩,
      ⟨(some 11), none, .bin .add (.t 10) (.c (.int .i64 1))⟩,
      ⟨(some 8), none, .mv (.t 11)⟩] [0, 1, 2, 3, 8])
  (.block 0
    fn77L1)),
  []⟩

/- slices.symMergeCmpFunc[spillway/api.Row] -/
def an78 : Ann := [[0, 1, 2, 3, 4, 28], [0, 1, 3, 4, 10], [0, 1, 4, 10, 11], [0, 1, 4, 10, 11], [0, 1, 4, 10, 11, 33], [0, 1, 4, 10, 11, 12], [2], [0, 1, 4, 10, 11, 12, 50], [0, 1, 4, 10, 11], [0, 1, 4, 10, 11], [0, 10, 13], [0, 10, 13], [0, 10, 13, 58], [0, 10, 13], [0, 10, 13], [0, 1, 2, 3, 4, 80], [0, 2, 4, 14], [0, 2, 4, 14, 15], [0, 2, 4, 14, 15], [0, 2, 4, 14, 15, 85], [0, 2, 4, 14, 15, 16], [2], [0, 2, 4, 14, 15, 16, 103], [0, 2, 4, 14, 15], [0, 2, 4, 14, 15], [0, 14, 17], [0, 14, 17], [0, 14, 17, 110], [0, 14, 17], [0, 14, 17], [0, 1, 2, 3, 4, 18], [0, 1, 2, 3, 4, 18, 19], [0, 1, 2, 3, 4, 18, 19], [0, 1, 2, 3, 4, 18, 19, 140], [0, 1, 2, 3, 4, 18, 19, 20], [0, 1, 2, 3, 4, 18, 19, 20, 21], [0, 1, 2, 3, 4, 18, 19, 20], [0, 1, 2, 3, 4, 18, 19, 20, 21], [0, 1, 2, 3, 4, 18, 19, 20, 21, 22], [0, 1, 2, 3, 4, 18, 19, 20, 21, 22], [0, 1, 2, 3, 4, 18, 19, 20, 21, 22, 151], [0, 1, 2, 3, 4, 18, 19, 20, 21, 22, 23], [2], [0, 1, 2, 3, 4, 18, 19, 20, 21, 22, 23, 171], [0, 1, 2, 3, 4, 18, 19, 20, 21, 22], [0, 1, 2, 3, 4, 18, 19, 20, 21, 22], [0, 1, 2, 3, 4, 18, 20, 24], [0, 1, 2, 3, 4, 18, 20, 24, 185], [0], [0, 1, 3, 4, 18, 20, 24], [0, 1, 3, 4, 18, 20, 24, 199], [0], [0, 3, 4, 18, 24], [0, 3, 4, 18, 24, 213], [0], []]
def fn78B0 : Cd :=
  (.seq (.seq (.rg [⟨(some 31), none, .mv (.t 10)⟩,
      ⟨(some 32), none, .mv (.t 11)⟩,
      ⟨(some 33), none, .bin .lss (.t 31) (.t 32)⟩] [0, 1, 4, 10, 11, 33])
  (.cond (.t 33)
    .skip
    (.exit 0)))
  (.block 1
    (.seq (.rg [⟨(some 34), none, .mv (.t 10)⟩,
        ⟨(some 35), none, .mv (.t 11)⟩,
        ⟨(some 36), none, .bin .add (.t 34) (.t 35)⟩,
        ⟨(some 37), none, .cvi .u64 (.t 36)⟩,
        ⟨(some 38), none, .bin .shr (.t 37) (.c (.int .u64 1))⟩,
        ⟨(some 39), none, .cvi .i64 (.t 38)⟩,
        ⟨(some 12), none, .mv (.t 39)⟩] [0, 1, 4, 10, 11, 12])
    (.seq (.rg [⟨(some 40), none, .mv (.t 4)⟩,
        ⟨(some 41), none, .mv (.t 0)⟩,
        ⟨(some 42), none, .mv (.t 12)⟩,
        ⟨(some 43), none, .iad 3 (.t 41) (.t 42)⟩,
        ⟨(some 44), none, .load true 3 (.t 43) false⟩,
        ⟨(some 45), none, .mv (.t 0)⟩,
        ⟨(some 46), none, .mv (.t 1)⟩,
        ⟨(some 47), none, .iad 3 (.t 45) (.t 46)⟩,
        ⟨(some 48), none, .load true 3 (.t 47) false⟩,
        ⟨(some 49), none, .call 2 (.t 40) [(.t 44), (.t 48)]⟩,
        ⟨(some 50), none, .bin .lss (.t 49) (.c (.int .i64 0))⟩] [0, 1, 4, 10, 11, 12, 50])
    (.cond (.t 50)
      (.rg [⟨(some 51), none, .mv (.t 12)⟩,
          ⟨(some 52), none, .bin .add (.t 51) (.c (.int .i64 1))⟩,
          ⟨(some 10), none, .mv (.t 52)⟩] [0, 1, 4, 10, 11])
      (.rg [⟨(some 53), none, .mv (.t 12)⟩,
          ⟨(some 11), none, .mv (.t 53)⟩] [0, 1, 4, 10, 11]))))))
def fn78L0 : Cd := .loop [0, 1, 4, 10, 11] fn78B0
def fn78B1 : Cd :=
  (.seq (.seq (.rg [⟨(some 55), none, .mv (.t 13)⟩,
      ⟨(some 56), none, .mv (.t 10)⟩,
      ⟨(some 57), none, .bin .sub (.t 56) (.c (.int .i64 1))⟩,
      ⟨(some 58), none, .bin .lss (.t 55) (.t 57)⟩] [0, 10, 13, 58])
  (.cond (.t 58)
    .skip
    (.exit 2)))
  (.seq (.block 3
    (.rg [⟨(some 61), none, .mv (.t 0)⟩,
        ⟨(some 62), none, .mv (.t 13)⟩,
        ⟨(some 63), none, .mv (.t 0)⟩,
        ⟨(some 64), none, .mv (.t 13)⟩,
        ⟨(some 65), none, .bin .add (.t 64) (.c (.int .i64 1))⟩,
        ⟨(some 66), none, .mv (.t 0)⟩,
        ⟨(some 67), none, .mv (.t 13)⟩,
        ⟨(some 68), none, .bin .add (.t 67) (.c (.int .i64 1))⟩,
        ⟨(some 69), none, .iad 3 (.t 66) (.t 68)⟩,
        ⟨(some 70), none, .load true 3 (.t 69) false⟩,
        ⟨(some 71), none, .mv (.t 0)⟩,
        ⟨(some 72), none, .mv (.t 13)⟩,
        ⟨(some 73), none, .iad 3 (.t 71) (.t 72)⟩,
        ⟨(some 74), none, .load true 3 (.t 73) false⟩,
        ⟨(some 75), none, .iad 3 (.t 61) (.t 62)⟩,
        ⟨none, none, .store 3 (.t 75) (.t 70)⟩,
        ⟨(some 76), none, .iad 3 (.t 63) (.t 65)⟩,
        ⟨none, none, .store 3 (.t 76) (.t 74)⟩] [0, 10, 13]))
  (.rg [⟨(some 59), none, .mv (.t 13)⟩,
      ⟨(some 60), none, .bin .add (.t 59) (.c (.int .i64 1))⟩,
      ⟨(some 13), none, .mv (.t 60)⟩] [0, 10, 13])))
def fn78L1 : Cd := .loop [0, 10, 13] fn78B1
def fn78B2 : Cd :=
  (.seq (.seq (.rg [⟨(some 83), none, .mv (.t 14)⟩,
      ⟨(some 84), none, .mv (.t 15)⟩,
      ⟨(some 85), none, .bin .lss (.t 83) (.t 84)⟩] [0, 2, 4, 14, 15, 85])
  (.cond (.t 85)
    .skip
    (.exit 4)))
  (.block 5
    (.seq (.rg [⟨(some 86), none, .mv (.t 14)⟩,
        ⟨(some 87), none, .mv (.t 15)⟩,
        ⟨(some 88), none, .bin .add (.t 86) (.t 87)⟩,
        ⟨(some 89), none, .cvi .u64 (.t 88)⟩,
        ⟨(some 90), none, .bin .shr (.t 89) (.c (.int .u64 1))⟩,
        ⟨(some 91), none, .cvi .i64 (.t 90)⟩,
        ⟨(some 16), none, .mv (.t 91)⟩] [0, 2, 4, 14, 15, 16])
    (.seq (.rg [⟨(some 92), none, .mv (.t 4)⟩,
        ⟨(some 93), none, .mv (.t 0)⟩,
        ⟨(some 94), none, .mv (.t 2)⟩,
        ⟨(some 95), none, .iad 3 (.t 93) (.t 94)⟩,
        ⟨(some 96), none, .load true 3 (.t 95) false⟩,
        ⟨(some 97), none, .mv (.t 0)⟩,
        ⟨(some 98), none, .mv (.t 16)⟩,
        ⟨(some 99), none, .iad 3 (.t 97) (.t 98)⟩,
        ⟨(some 100), none, .load true 3 (.t 99) false⟩,
        ⟨(some 101), none, .call 2 (.t 92) [(.t 96), (.t 100)]⟩,
        ⟨(some 102), none, .bin .lss (.t 101) (.c (.int .i64 0))⟩,
        ⟨(some 103), none, .un .not (.t 102)⟩] [0, 2, 4, 14, 15, 16, 103])
    (.cond (.t 103)
      (.rg [⟨(some 104), none, .mv (.t 16)⟩,
          ⟨(some 105), none, .bin .add (.t 104) (.c (.int .i64 1))⟩,
          ⟨(some 14), none, .mv (.t 105)⟩] [0, 2, 4, 14, 15])
      (.rg [⟨(some 106), none, .mv (.t 16)⟩,
          ⟨(some 15), none, .mv (.t 106)⟩] [0, 2, 4, 14, 15]))))))
def fn78L2 : Cd := .loop [0, 2, 4, 14, 15] fn78B2
def fn78B3 : Cd :=
  (.seq (.seq (.rg [⟨(some 108), none, .mv (.t 17)⟩,
      ⟨(some 109), none, .mv (.t 14)⟩,
      ⟨(some 110), none, .bin .gtr (.t 108) (.t 109)⟩] [0, 14, 17, 110])
  (.cond (.t 110)
    .skip
    (.exit 6)))
  (.seq (.block 7
    (.rg [⟨(some 113), none, .mv (.t 0)⟩,
        ⟨(some 114), none, .mv (.t 17)⟩,
        ⟨(some 115), none, .mv (.t 0)⟩,
        ⟨(some 116), none, .mv (.t 17)⟩,
        ⟨(some 117), none, .bin .sub (.t 116) (.c (.int .i64 1))⟩,
        ⟨(some 118), none, .mv (.t 0)⟩,
        ⟨(some 119), none, .mv (.t 17)⟩,
        ⟨(some 120), none, .bin .sub (.t 119) (.c (.int .i64 1))⟩,
        ⟨(some 121), none, .iad 3 (.t 118) (.t 120)⟩,
        ⟨(some 122), none, .load true 3 (.t 121) false⟩,
        ⟨(some 123), none, .mv (.t 0)⟩,
        ⟨(some 124), none, .mv (.t 17)⟩,
        ⟨(some 125), none, .iad 3 (.t 123) (.t 124)⟩,
        ⟨(some 126), none, .load true 3 (.t 125) false⟩,
        ⟨(some 127), none, .iad 3 (.t 113) (.t 114)⟩,
        ⟨none, none, .store 3 (.t 127) (.t 122)⟩,
        ⟨(some 128), none, .iad 3 (.t 115) (.t 117)⟩,
        ⟨none, none, .store 3 (.t 128) (.t 126)⟩] [0, 14, 17]))
  (.rg [⟨(some 111), none, .mv (.t 17)⟩,
      ⟨(some 112), none, .bin .sub (.t 111) (.c (.int .i64 1))⟩,
      ⟨(some 17), none, .mv (.t 112)⟩] [0, 14, 17])))
def fn78L3 : Cd := .loop [0, 14, 17] fn78B3
def fn78B4 : Cd :=
  (.seq (.seq (.rg [⟨(some 149), none, .mv (.t 20)⟩,
      ⟨(some 150), none, .mv (.t 21)⟩,
      ⟨(some 151), none, .bin .lss (.t 149) (.t 150)⟩] [0, 1, 2, 3, 4, 18, 19, 20, 21, 22, 151])
  (.cond (.t 151)
    .skip
    (.exit 8)))
  (.block 9
    (.seq (.rg [⟨(some 152), none, .mv (.t 20)⟩,
        ⟨(some 153), none, .mv (.t 21)⟩,
        ⟨(some 154), none, .bin .add (.t 152) (.t 153)⟩,
        ⟨(some 155), none, .cvi .u64 (.t 154)⟩,
        ⟨(some 156), none, .bin .shr (.t 155) (.c (.int .u64 1))⟩,
        ⟨(some 157), none, .cvi .i64 (.t 156)⟩,
        ⟨(some 23), none, .mv (.t 157)⟩] [0, 1, 2, 3, 4, 18, 19, 20, 21, 22, 23])
    (.seq (.rg [⟨(some 158), none, .mv (.t 4)⟩,
        ⟨(some 159), none, .mv (.t 0)⟩,
        ⟨(some 160), none, .mv (.t 22)⟩,
        ⟨(some 161), none, .mv (.t 23)⟩,
        ⟨(some 162), none, .bin .sub (.t 160) (.t 161)⟩,
        ⟨(some 163), none, .iad 3 (.t 159) (.t 162)⟩,
        ⟨(some 164), none, .load true 3 (.t 163) false⟩,
        ⟨(some 165), none, .mv (.t 0)⟩,
        ⟨(some 166), none, .mv (.t 23)⟩,
        ⟨(some 167), none, .iad 3 (.t 165) (.t 166)⟩,
        ⟨(some 168), none, .load true 3 (.t 167) false⟩,
        ⟨(some 169), none, .call 2 (.t 158) [(.t 164), (.t 168)]⟩,
        ⟨(some 170), none, .bin .lss (.t 169) (.c (.int .i64 0))⟩,
        ⟨(some 171), none, .un .not (.t 170)⟩] [0, 1, 2, 3, 4, 18, 19, 20, 21, 22, 23, 171])
    (.cond (.t 171)
      (.rg [⟨(some 172), none, .mv (.t 23)⟩,
          ⟨(some 173), none, .bin .add (.t 172) (.c (.int .i64 1))⟩,
          ⟨(some 20), none, .mv (.t 173)⟩] [0, 1, 2, 3, 4, 18, 19, 20, 21, 22])
      (.rg [⟨(some 174), none, .mv (.t 23)⟩,
          ⟨(some 21), none, .mv (.t 174)⟩] [0, 1, 2, 3, 4, 18, 19, 20, 21, 22]))))))
def fn78L4 : Cd := .loop [0, 1, 2, 3, 4, 18, 19, 20, 21, 22] fn78B4
def fn78 : Vs.Fn := ⟨5,
  (.seq (.seq (.rg [⟨(some 25), none, .mv (.t 2)⟩,
      ⟨(some 26), none, .mv (.t 1)⟩,
      ⟨(some 27), none, .bin .sub (.t 25) (.t 26)⟩,
      ⟨(some 28), none, .bin .eql (.t 27) (.c (.int .i64 1))⟩] [0, 1, 2, 3, 4, 28])
  (.cond (.t 28)
    (.seq (.rg [⟨(some 29), none, .mv (.t 2)⟩,
        ⟨(some 10), none, .mv (.t 29)⟩] [0, 1, 3, 4, 10])
    (.seq (.rg [⟨(some 30), none, .mv (.t 3)⟩,
        ⟨(some 11), none, .mv (.t 30)⟩] [0, 1, 4, 10, 11])
    (.seq (.block 0
      fn78L0)
    (.seq (.seq (.rg [⟨(some 54), none, .mv (.t 1)⟩,
        ⟨(some 13), none, .mv (.t 54)⟩] [0, 10, 13])
    (.block 2
      fn78L1))
    .ret))))
    .skip))
  (.seq (.seq (.rg [⟨(some 77), none, .mv (.t 3)⟩,
      ⟨(some 78), none, .mv (.t 2)⟩,
      ⟨(some 79), none, .bin .sub (.t 77) (.t 78)⟩,
      ⟨(some 80), none, .bin .eql (.t 79) (.c (.int .i64 1))⟩] [0, 1, 2, 3, 4, 80])
  (.cond (.t 80)
    (.seq (.rg [⟨(some 81), none, .mv (.t 1)⟩,
        ⟨(some 14), none, .mv (.t 81)⟩] [0, 2, 4, 14])
    (.seq (.rg [⟨(some 82), none, .mv (.t 2)⟩,
        ⟨(some 15), none, .mv (.t 82)⟩] [0, 2, 4, 14, 15])
    (.seq (.block 4
      fn78L2)
    (.seq (.seq (.rg [⟨(some 107), none, .mv (.t 2)⟩,
        ⟨(some 17), none, .mv (.t 107)⟩] [0, 14, 17])
    (.block 6
      fn78L3))
    .ret))))
    .skip))
  (.seq (.rg [⟨(some 129), none, .mv (.t 1)⟩,
      ⟨(some 130), none, .mv (.t 3)⟩,
      ⟨(some 131), none, .bin .add (.t 129) (.t 130)⟩,
      ⟨(some 132), none, .cvi .u64 (.t 131)⟩,
      ⟨(some 133), none, .bin .shr (.t 132) (.c (.int .u64 1))⟩,
      ⟨(some 134), none, .cvi .i64 (.t 133)⟩,
      ⟨(some 18), none, .mv (.t 134)⟩] [0, 1, 2, 3, 4, 18])
  (.seq (.rg [⟨(some 135), none, .mv (.t 18)⟩,
      ⟨(some 136), none, .mv (.t 2)⟩,
      ⟨(some 137), none, .bin .add (.t 135) (.t 136)⟩,
      ⟨(some 19), none, .mv (.t 137)⟩] [0, 1, 2, 3, 4, 18, 19])
  (.seq (.rg [⟨(some 20), none, .mv (.c (.int .i64 0))⟩,
      ⟨(some 21), none, .mv (.c (.int .i64 0))⟩] [0, 1, 2, 3, 4, 18, 19])
  (.seq (.seq (.rg [⟨(some 138), none, .mv (.t 2)⟩,
      ⟨(some 139), none, .mv (.t 18)⟩,
      ⟨(some 140), none, .bin .gtr (.t 138) (.t 139)⟩] [0, 1, 2, 3, 4, 18, 19, 140])
  (.cond (.t 140)
    (.seq (.rg [⟨(some 141), none, .mv (.t 19)⟩,
        ⟨(some 142), none, .mv (.t 3)⟩,
        ⟨(some 143), none, .bin .sub (.t 141) (.t 142)⟩,
        ⟨(some 20), none, .mv (.t 143)⟩] [0, 1, 2, 3, 4, 18, 19, 20])
    (.rg [⟨(some 144), none, .mv (.t 18)⟩,
        ⟨(some 21), none, .mv (.t 144)⟩] [0, 1, 2, 3, 4, 18, 19, 20, 21]))
    (.seq (.rg [⟨(some 145), none, .mv (.t 1)⟩,
        ⟨(some 20), none, .mv (.t 145)⟩] [0, 1, 2, 3, 4, 18, 19, 20])
    (.rg [⟨(some 146), none, .mv (.t 2)⟩,
        ⟨(some 21), none, .mv (.t 146)⟩] [0, 1, 2, 3, 4, 18, 19, 20, 21]))))
  (.seq (.rg [⟨(some 147), none, .mv (.t 19)⟩,
      ⟨(some 148), none, .bin .sub (.t 147) (.c (.int .i64 1))⟩,
      ⟨(some 22), none, .mv (.t 148)⟩] [0, 1, 2, 3, 4, 18, 19, 20, 21, 22])
  (.seq (.block 8
    fn78L4)
  (.seq (.rg [⟨(some 175), none, .mv (.t 19)⟩,
      ⟨(some 176), none, .mv (.t 20)⟩,
      ⟨(some 177), none, .bin .sub (.t 175) (.t 176)⟩,
      ⟨(some 24), none, .mv (.t 177)⟩] [0, 1, 2, 3, 4, 18, 20, 24])
  (.seq (.seq (.rg [⟨(some 178), none, .mv (.t 20)⟩,
      ⟨(some 179), none, .mv (.t 2)⟩,
      ⟨(some 180), none, .bin .lss (.t 178) (.t 179)⟩,
      ⟨(some 181), none, .mv (.t 180)⟩,
      ⟨(some 182), some (181, true), .mv (.t 2)⟩,
      ⟨(some 183), some (181, true), .mv (.t 24)⟩,
      ⟨(some 184), some (181, true), .bin .lss (.t 182) (.t 183)⟩,
      ⟨(some 185), none, .pick (.t 181) (.t 184) (.c (.bool false))⟩] [0, 1, 2, 3, 4, 18, 20, 24, 185])
  (.cond (.t 185)
    (.rg [⟨(some 186), none, .mv (.t 0)⟩,
        ⟨(some 187), none, .mv (.t 20)⟩,
        ⟨(some 188), none, .mv (.t 2)⟩,
        ⟨(some 189), none, .mv (.t 24)⟩,
        ⟨(some 190), none, .mv (.t 4)⟩,
        ⟨(some 191), none, .call 0 (.f 82) [(.t 186), (.t 187), (.t 188), (.t 189), (.t 190)]⟩] [0, 1, 3, 4, 18, 20, 24])
    .skip))
  (.seq (.seq (.rg [⟨(some 192), none, .mv (.t 1)⟩,
      ⟨(some 193), none, .mv (.t 20)⟩,
      ⟨(some 194), none, .bin .lss (.t 192) (.t 193)⟩,
      ⟨(some 195), none, .mv (.t 194)⟩,
      ⟨(some 196), some (195, true), .mv (.t 20)⟩,
      ⟨(some 197), some (195, true), .mv (.t 18)⟩,
      ⟨(some 198), some (195, true), .bin .lss (.t 196) (.t 197)⟩,
      ⟨(some 199), none, .pick (.t 195) (.t 198) (.c (.bool false))⟩] [0, 1, 3, 4, 18, 20, 24, 199])
  (.cond (.t 199)
    (.rg [⟨(some 200), none, .mv (.t 0)⟩,
        ⟨(some 201), none, .mv (.t 1)⟩,
        ⟨(some 202), none, .mv (.t 20)⟩,
        ⟨(some 203), none, .mv (.t 18)⟩,
        ⟨(some 204), none, .mv (.t 4)⟩,
        ⟨(some 205), none, .call 0 (.f 78) [(.t 200), (.t 201), (.t 202), (.t 203), (.t 204)]⟩] [0, 3, 4, 18, 24])
    .skip))
  (.seq (.rg [⟨(some 206), none, .mv (.t 18)⟩,
      ⟨(some 207), none, .mv (.t 24)⟩,
      ⟨(some 208), none, .bin .lss (.t 206) (.t 207)⟩,
      ⟨(some 209), none, .mv (.t 208)⟩,
      ⟨(some 210), some (209, true), .mv (.t 24)⟩,
      ⟨(some 211), some (209, true), .mv (.t 3)⟩,
      ⟨(some 212), some (209, true), .bin .lss (.t 210) (.t 211)⟩,
      ⟨(some 213), none, .pick (.t 209) (.t 212) (.c (.bool false))⟩] [0, 3, 4, 18, 24, 213])
  (.cond (.t 213)
    (.rg [⟨(some 214), none, .mv (.t 0)⟩,
        ⟨(some 215), none, .mv (.t 18)⟩,
        ⟨(some 216), none, .mv (.t 24)⟩,
        ⟨(some 217), none, .mv (.t 3)⟩,
        ⟨(some 218), none, .mv (.t 4)⟩,
        ⟨(some 219), none, .call 0 (.f 78) [(.t 214), (.t 215), (.t 216), (.t 217), (.t 218)]⟩] [])
    .skip))))))))))))),
  []⟩

/- internal/bytealg.CompareString -/
def an79 : Ann := [[0, 1], [2], [4]]
def fn79 : Vs.Fn := ⟨2,
  (.seq (.rg [⟨(some 4), none, .mv (.c (.int .i64 0))⟩] [0, 1])
  (.seq (.rg [⟨(some 5), none, .mv (.t 0)⟩,
      ⟨(some 6), none, .mv (.t 1)⟩,
      ⟨(some 7), none, .pr .cmps [(.t 5), (.t 6)]⟩,
      ⟨(some 4), none, .mv (.t 7)⟩] [4])
  .ret)),
  [.t 4]⟩

/- strings.IndexByte -/
def an80 : Ann := [[0, 1], [2], [4]]
def fn80 : Vs.Fn := ⟨2,
  (.seq (.rg [⟨(some 4), none, .mv (.c (.int .i64 0))⟩] [0, 1])
  (.seq (.rg [⟨(some 5), none, .mv (.t 0)⟩,
      ⟨(some 6), none, .mv (.t 1)⟩,
      ⟨(some 7), none, .call 2 (.f 84) [(.t 5), (.t 6)]⟩,
      ⟨(some 4), none, .mv (.t 7)⟩] [4])
  .ret)),
  [.t 4]⟩

/- math/bits.Len64 -/
def an81 : Ann := [[0, 2], [0, 2, 4], [0], [0, 2], [0, 2, 8], [0, 2], [0, 2], [0, 2, 14], [0, 2], [0, 2], [2]]
def fn81 : Vs.Fn := ⟨1,
  (.seq (.rg [⟨(some 2), none, .mv (.c (.int .i64 0))⟩] [0, 2])
  (.seq (.seq (.rg [⟨(some 3), none, .mv (.t 0)⟩,
      ⟨(some 4), none, .bin .geq (.t 3) (.c (.int .u64 4294967296))⟩] [0, 2, 4])
  (.cond (.t 4)
    (.seq (.rg [⟨(some 5), none, .mv (.t 0)⟩,
        ⟨(some 6), none, .bin .shr (.t 5) (.c (.int .u64 32))⟩,
        ⟨(some 0), none, .mv (.t 6)⟩] [0])
    (.rg [⟨(some 2), none, .mv (.c (.int .i64 32))⟩] [0, 2]))
    .skip))
  (.seq (.seq (.rg [⟨(some 7), none, .mv (.t 0)⟩,
      ⟨(some 8), none, .bin .geq (.t 7) (.c (.int .u64 65536))⟩] [0, 2, 8])
  (.cond (.t 8)
    (.seq (.rg [⟨(some 9), none, .mv (.t 0)⟩,
        ⟨(some 10), none, .bin .shr (.t 9) (.c (.int .u64 16))⟩,
        ⟨(some 0), none, .mv (.t 10)⟩] [0, 2])
    (.rg [⟨(some 11), none, .mv (.t 2)⟩,
        ⟨(some 12), none, .bin .add (.t 11) (.c (.int .i64 16))⟩,
        ⟨(some 2), none, .mv (.t 12)⟩] [0, 2]))
    .skip))
  (.seq (.seq (.rg [⟨(some 13), none, .mv (.t 0)⟩,
      ⟨(some 14), none, .bin .geq (.t 13) (.c (.int .u64 256))⟩] [0, 2, 14])
  (.cond (.t 14)
    (.seq (.rg [⟨(some 15), none, .mv (.t 0)⟩,
        ⟨(some 16), none, .bin .shr (.t 15) (.c (.int .u64 8))⟩,
        ⟨(some 0), none, .mv (.t 16)⟩] [0, 2])
    (.rg [⟨(some 17), none, .mv (.t 2)⟩,
        ⟨(some 18), none, .bin .add (.t 17) (.c (.int .i64 8))⟩,
        ⟨(some 2), none, .mv (.t 18)⟩] [0, 2]))
    .skip))
  (.seq (.rg [⟨(some 19), none, .mv (.t 2)⟩,
      ⟨(some 20), none, .mv (.t 0)⟩,
      ⟨(some 21), none, .cvi .u8 (.t 20)⟩,
      ⟨(some 22), none, .ist (.c (.string ⟨#[0, 1, 2, 2, 3, 3, 3, 3, 4, 4, 4, 4, 4, 4, 4, 4, 5, 5, 5, 5, 5, 5, 5, 5, 5, 5, 5, 5, 5, 5, 5, 5, 6, 6, 6, 6, 6, 6, 6, 6, 6, 6, 6, 6, 6, 6, 6, 6, 6, 6, 6, 6, 6, 6, 6, 6, 6, 6, 6, 6, 6, 6, 6, 6, 7, 7, 7, 7, 7, 7, 7, 7, 7, 7, 7, 7, 7, 7, 7, 7, 7, 7, 7, 7, 7, 7, 7, 7, 7, 7, 7, 7, 7, 7, 7, 7, 7, 7, 7, 7, 7, 7, 7, 7, 7, 7, 7, 7, 7, 7, 7, 7, 7, 7, 7, 7, 7, 7, 7, 7, 7, 7, 7, 7, 7, 7, 7, 7, 8, 8, 8, 8, 8, 8, 8, 8, 8, 8, 8, 8, 8, 8, 8, 8, 8, 8, 8, 8, 8, 8, 8, 8, 8, 8, 8, 8, 8, 8, 8, 8, 8, 8, 8, 8, 8, 8, 8, 8, 8, 8, 8, 8, 8, 8, 8, 8, 8, 8, 8, 8, 8, 8, 8, 8, 8, 8, 8, 8, 8, 8, 8, 8, 8, 8, 8, 8, 8, 8, 8, 8, 8, 8, 8, 8, 8, 8, 8, 8, 8, 8, 8, 8, 8, 8, 8, 8, 8, 8, 8, 8, 8, 8, 8, 8, 8, 8, 8, 8, 8, 8, 8, 8, 8, 8, 8, 8, 8, 8, 8, 8, 8, 8, 8, 8, 8, 8, 8, 8, 8, 8, 8, 8, 8, 8, 8, 8]⟩)) (.t 21)⟩,
      ⟨(some 23), none, .cvi .i64 (.t 22)⟩,
      ⟨(some 24), none, .bin .add (.t 19) (.t 23)⟩,
      ⟨(some 2), none, .mv (.t 24)⟩] [2])
  .ret))))),
  [.t 2]⟩

/- slices.rotateCmpFunc[spillway/api.Row] -/
def an82 : Ann := [[0, 2, 3, 4, 10], [0, 2, 4, 10, 11], [0, 2, 4, 10, 11], [0, 2, 4, 10, 11, 20], [0, 2, 4, 10, 11, 23], [0], [0, 2, 4, 10, 11], [0, 2, 4, 10, 11], [0], [0, 2, 4, 10, 11], [0, 2, 4, 10, 11], [0], []]
def fn82B0 : Cd :=
  (.seq (.seq (.rg [⟨(some 18), none, .mv (.t 10)⟩,
      ⟨(some 19), none, .mv (.t 11)⟩,
      ⟨(some 20), none, .bin .neq (.t 18) (.t 19)⟩] [0, 2, 4, 10, 11, 20])
  (.cond (.t 20)
    .skip
    (.exit 0)))
  (.block 1
    (.seq (.rg [⟨(some 21), none, .mv (.t 10)⟩,
        ⟨(some 22), none, .mv (.t 11)⟩,
        ⟨(some 23), none, .bin .gtr (.t 21) (.t 22)⟩] [0, 2, 4, 10, 11, 23])
    (.cond (.t 23)
      (.seq (.rg [⟨(some 24), none, .mv (.t 0)⟩,
          ⟨(some 25), none, .mv (.t 2)⟩,
          ⟨(some 26), none, .mv (.t 10)⟩,
          ⟨(some 27), none, .bin .sub (.t 25) (.t 26)⟩,
          ⟨(some 28), none, .mv (.t 2)⟩,
          ⟨(some 29), none, .mv (.t 11)⟩,
          ⟨(some 30), none, .mv (.t 4)⟩,
          ⟨(some 31), none, .call 0 (.f 85) [(.t 24), (.t 27), (.t 28), (.t 29), (.t 30)]⟩] [0, 2, 4, 10, 11])
      (.rg [⟨(some 32), none, .mv (.t 10)⟩,
          ⟨(some 33), none, .mv (.t 11)⟩,
          ⟨(some 34), none, .bin .sub (.t 32) (.t 33)⟩,
          ⟨(some 10), none, .mv (.t 34)⟩] [0, 2, 4, 10, 11]))
      (.seq (.rg [⟨(some 35), none, .mv (.t 0)⟩,
          ⟨(some 36), none, .mv (.t 2)⟩,
          ⟨(some 37), none, .mv (.t 10)⟩,
          ⟨(some 38), none, .bin .sub (.t 36) (.t 37)⟩,
          ⟨(some 39), none, .mv (.t 2)⟩,
          ⟨(some 40), none, .mv (.t 11)⟩,
          ⟨(some 41), none, .bin .add (.t 39) (.t 40)⟩,
          ⟨(some 42), none, .mv (.t 10)⟩,
          ⟨(some 43), none, .bin .sub (.t 41) (.t 42)⟩,
          ⟨(some 44), none, .mv (.t 10)⟩,
          ⟨(some 45), none, .mv (.t 4)⟩,
          ⟨(some 46), none, .call 0 (.f 85) [(.t 35), (.t 38), (.t 43), (.t 44), (.t 45)]⟩] [0, 2, 4, 10, 11])
      (.rg [⟨(some 47), none, .mv (.t 11)⟩,
          ⟨(some 48), none, .mv (.t 10)⟩,
          ⟨(some 49), none, .bin .sub (.t 47) (.t 48)⟩,
          ⟨(some 11), none, .mv (.t 49)⟩] [0, 2, 4, 10, 11]))))))
def fn82L0 : Cd := .loop [0, 2, 4, 10, 11] fn82B0
def fn82 : Vs.Fn := ⟨5,
  (.seq (.rg [⟨(some 12), none, .mv (.t 2)⟩,
      ⟨(some 13), none, .mv (.t 1)⟩,
      ⟨(some 14), none, .bin .sub (.t 12) (.t 13)⟩,
      ⟨(some 10), none, .mv (.t 14)⟩] [0, 2, 3, 4, 10])
  (.seq (.rg [⟨(some 15), none, .mv (.t 3)⟩,
      ⟨(some 16), none, .mv (.t 2)⟩,
      ⟨(some 17), none, .bin .sub (.t 15) (.t 16)⟩,
      ⟨(some 11), none, .mv (.t 17)⟩] [0, 2, 4, 10, 11])
  (.seq (.block 0
    fn82L0)
  (.rg [⟨(some 50), none, .mv (.t 0)⟩,
      ⟨(some 51), none, .mv (.t 2)⟩,
      ⟨(some 52), none, .mv (.t 10)⟩,
      ⟨(some 53), none, .bin .sub (.t 51) (.t 52)⟩,
      ⟨(some 54), none, .mv (.t 2)⟩,
      ⟨(some 55), none, .mv (.t 10)⟩,
      ⟨(some 56), none, .mv (.t 4)⟩,
      ⟨(some 57), none, .call 0 (.f 85) [(.t 50), (.t 53), (.t 54), (.t 55), (.t 56)]⟩] [])))),
  []⟩

/- internal/stringslite.IndexByte -/
def an84 : Ann := [[0, 1], [2], [4]]
def fn84 : Vs.Fn := ⟨2,
  (.seq (.rg [⟨(some 4), none, .mv (.c (.int .i64 0))⟩] [0, 1])
  (.seq (.rg [⟨(some 5), none, .mv (.t 0)⟩,
      ⟨(some 6), none, .mv (.t 1)⟩,
      ⟨(some 7), none, .pr .ixb [(.t 5), (.t 6)]⟩,
      ⟨(some 4), none, .mv (.t 7)⟩] [4])
  .ret)),
  [.t 4]⟩

/- slices.swapRangeCmpFunc[spillway/api.Row] -/
def an85 : Ann := [[0, 1, 2, 3, 10], [0, 1, 2, 3, 10], [0, 1, 2, 3, 10, 13], [0, 1, 2, 3, 10], [0, 1, 2, 3, 10]]
def fn85B0 : Cd :=
  (.seq (.seq (.rg [⟨(some 11), none, .mv (.t 10)⟩,
      ⟨(some 12), none, .mv (.t 3)⟩,
      ⟨(some 13), none, .bin .lss (.t 11) (.t 12)⟩] [0, 1, 2, 3, 10, 13])
  (.cond (.t 13)
    .skip
    (.exit 0)))
  (.seq (.block 1
    (.rg [⟨(some 16), none, .mv (.t 0)⟩,
        ⟨(some 17), none, .mv (.t 1)⟩,
        ⟨(some 18), none, .mv (.t 10)⟩,
        ⟨(some 19), none, .bin .add (.t 17) (.t 18)⟩,
        ⟨(some 20), none, .mv (.t 0)⟩,
        ⟨(some 21), none, .mv (.t 2)⟩,
        ⟨(some 22), none, .mv (.t 10)⟩,
        ⟨(some 23), none, .bin .add (.t 21) (.t 22)⟩,
        ⟨(some 24), none, .mv (.t 0)⟩,
        ⟨(some 25), none, .mv (.t 2)⟩,
        ⟨(some 26), none, .mv (.t 10)⟩,
        ⟨(some 27), none, .bin .add (.t 25) (.t 26)⟩,
        ⟨(some 28), none, .iad 3 (.t 24) (.t 27)⟩,
        ⟨(some 29), none, .load true 3 (.t 28) false⟩,
        ⟨(some 30), none, .mv (.t 0)⟩,
        ⟨(some 31), none, .mv (.t 1)⟩,
        ⟨(some 32), none, .mv (.t 10)⟩,
        ⟨(some 33), none, .bin .add (.t 31) (.t 32)⟩,
        ⟨(some 34), none, .iad 3 (.t 30) (.t 33)⟩,
        ⟨(some 35), none, .load true 3 (.t 34) false⟩,
        ⟨(some 36), none, .iad 3 (.t 16) (.t 19)⟩,
        ⟨none, none, .store 3 (.t 36) (.t 29)⟩,
        ⟨(some 37), none, .iad 3 (.t 20) (.t 23)⟩,
        ⟨none, none, .store 3 (.t 37) (.t 35)⟩] [0, 1, 2, 3, 10]))
  (.rg [⟨(some 14), none, .mv (.t 10)⟩,
      ⟨(some 15), none, .bin .add (.t 14) (.c (.int .i64 1))⟩,
      ⟨(some 10), none, .mv (.t 15)⟩] [0, 1, 2, 3, 10])))
def fn85L0 : Cd := .loop [0, 1, 2, 3, 10] fn85B0
def fn85 : Vs.Fn := ⟨5,
  (.seq (.rg [⟨(some 10), none, .mv (.c (.int .i64 0))⟩] [0, 1, 2, 3, 10])
  (.block 0
    fn85L0)),
  []⟩

def pg : Pg := fun f => match f with
  | 3 => some fn3
  | 4 => some fn4
  | 5 => some fn5
  | 6 => some fn6
  | 7 => some fn7
  | 8 => some fn8
  | 9 => some fn9
  | 10 => some fn10
  | 11 => some fn11
  | 12 => some fn12
  | 13 => some fn13
  | 14 => some fn14
  | 15 => some fn15
  | 16 => some fn16
  | 17 => some fn17
  | 18 => some fn18
  | 19 => some fn19
  | 20 => some fn20
  | 21 => some fn21
  | 22 => some fn22
  | 23 => some fn23
  | 24 => some fn24
  | 25 => some fn25
  | 26 => some fn26
  | 27 => some fn27
  | 28 => some fn28
  | 29 => some fn29
  | 30 => some fn30
  | 31 => some fn31
  | 32 => some fn32
  | 33 => some fn33
  | 34 => some fn34
  | 35 => some fn35
  | 36 => some fn36
  | 37 => some fn37
  | 38 => some fn38
  | 39 => some fn39
  | 40 => some fn40
  | 41 => some fn41
  | 42 => some fn42
  | 43 => some fn43
  | 44 => some fn44
  | 45 => some fn45
  | 46 => some fn46
  | 47 => some fn47
  | 48 => some fn48
  | 49 => some fn49
  | 50 => some fn50
  | 51 => some fn51
  | 52 => some fn52
  | 53 => some fn53
  | 54 => some fn54
  | 55 => some fn55
  | 56 => some fn56
  | 57 => some fn57
  | 58 => some fn58
  | 59 => some fn59
  | 60 => some fn60
  | 61 => some fn61
  | 62 => some fn62
  | 63 => some fn63
  | 64 => some fn64
  | 65 => some fn65
  | 66 => some fn66
  | 67 => some fn67
  | 68 => some fn68
  | 69 => some fn69
  | 70 => some fn70
  | 71 => some fn71
  | 72 => some fn72
  | 73 => some fn73
  | 74 => some fn74
  | 75 => some fn75
  | 76 => some fn76
  | 77 => some fn77
  | 78 => some fn78
  | 79 => some fn79
  | 80 => some fn80
  | 81 => some fn81
  | 82 => some fn82
  | 84 => some fn84
  | 85 => some fn85
  | _ => none

theorem cfn3 : cFn Try.prog an3 Try.f3 = some fn3 := by kernel_rfl
theorem cfn4 : cFn Try.prog an4 Try.f4 = some fn4 := by kernel_rfl
theorem cfn5 : cFn Try.prog an5 Try.f5 = some fn5 := by kernel_rfl
theorem cfn6 : cFn Try.prog an6 Try.f6 = some fn6 := by kernel_rfl
theorem cfn7 : cFn Try.prog an7 Try.f7 = some fn7 := by kernel_rfl
theorem cfn8 : cFn Try.prog an8 Try.f8 = some fn8 := by kernel_rfl
theorem cfn9 : cFn Try.prog an9 Try.f9 = some fn9 := by kernel_rfl
theorem cfn10 : cFn Try.prog an10 Try.f10 = some fn10 := by kernel_rfl
theorem cfn11 : cFn Try.prog an11 Try.f11 = some fn11 := by kernel_rfl
theorem cfn12 : cFn Try.prog an12 Try.f12 = some fn12 := by kernel_rfl
theorem cfn13 : cFn Try.prog an13 Try.f13 = some fn13 := by kernel_rfl
theorem cfn14 : cFn Try.prog an14 Try.f14 = some fn14 := by kernel_rfl
theorem cfn15 : cFn Try.prog an15 Try.f15 = some fn15 := by kernel_rfl
theorem cfn16 : cFn Try.prog an16 Try.f16 = some fn16 := by kernel_rfl
theorem cfn17 : cFn Try.prog an17 Try.f17 = some fn17 := by kernel_rfl
theorem cfn18 : cFn Try.prog an18 Try.f18 = some fn18 := by kernel_rfl
theorem cfn19 : cFn Try.prog an19 Try.f19 = some fn19 := by kernel_rfl
theorem cfn20 : cFn Try.prog an20 Try.f20 = some fn20 := by kernel_rfl
theorem cfn21 : cFn Try.prog an21 Try.f21 = some fn21 := by kernel_rfl
theorem cfn22 : cFn Try.prog an22 Try.f22 = some fn22 := by kernel_rfl
theorem cfn23 : cFn Try.prog an23 Try.f23 = some fn23 := by kernel_rfl
theorem cfn24 : cFn Try.prog an24 Try.f24 = some fn24 := by kernel_rfl
theorem cfn25 : cFn Try.prog an25 Try.f25 = some fn25 := by kernel_rfl
theorem cfn26 : cFn Try.prog an26 Try.f26 = some fn26 := by kernel_rfl
theorem cfn27 : cFn Try.prog an27 Try.f27 = some fn27 := by kernel_rfl
theorem cfn28 : cFn Try.prog an28 Try.f28 = some fn28 := by kernel_rfl
theorem cfn29 : cFn Try.prog an29 Try.f29 = some fn29 := by kernel_rfl
theorem cfn30 : cFn Try.prog an30 Try.f30 = some fn30 := by kernel_rfl
theorem cfn31 : cFn Try.prog an31 Try.f31 = some fn31 := by kernel_rfl
theorem cfn32 : cFn Try.prog an32 Try.f32 = some fn32 := by kernel_rfl
theorem cfn33 : cFn Try.prog an33 Try.f33 = some fn33 := by kernel_rfl
theorem cfn34 : cFn Try.prog an34 Try.f34 = some fn34 := by kernel_rfl
theorem cfn35 : cFn Try.prog an35 Try.f35 = some fn35 := by kernel_rfl
theorem cfn36 : cFn Try.prog an36 Try.f36 = some fn36 := by kernel_rfl
theorem cfn37 : cFn Try.prog an37 Try.f37 = some fn37 := by kernel_rfl
theorem cfn38 : cFn Try.prog an38 Try.f38 = some fn38 := by kernel_rfl
theorem cfn39 : cFn Try.prog an39 Try.f39 = some fn39 := by kernel_rfl
theorem cfn40 : cFn Try.prog an40 Try.f40 = some fn40 := by kernel_rfl
theorem cfn41 : cFn Try.prog an41 Try.f41 = some fn41 := by kernel_rfl
theorem cfn42 : cFn Try.prog an42 Try.f42 = some fn42 := by kernel_rfl
theorem cfn43 : cFn Try.prog an43 Try.f43 = some fn43 := by kernel_rfl
theorem cfn44 : cFn Try.prog an44 Try.f44 = some fn44 := by kernel_rfl
theorem cfn45 : cFn Try.prog an45 Try.f45 = some fn45 := by kernel_rfl
theorem cfn46 : cFn Try.prog an46 Try.f46 = some fn46 := by kernel_rfl
theorem cfn47 : cFn Try.prog an47 Try.f47 = some fn47 := by kernel_rfl
theorem cfn48 : cFn Try.prog an48 Try.f48 = some fn48 := by kernel_rfl
theorem cfn49 : cFn Try.prog an49 Try.f49 = some fn49 := by kernel_rfl
theorem cfn50 : cFn Try.prog an50 Try.f50 = some fn50 := by kernel_rfl
theorem cfn51 : cFn Try.prog an51 Try.f51 = some fn51 := by kernel_rfl
theorem cfn52 : cFn Try.prog an52 Try.f52 = some fn52 := by kernel_rfl
theorem cfn53 : cFn Try.prog an53 Try.f53 = some fn53 := by kernel_rfl
theorem cfn54 : cFn Try.prog an54 Try.f54 = some fn54 := by kernel_rfl
theorem cfn55 : cFn Try.prog an55 Try.f55 = some fn55 := by kernel_rfl
theorem cfn56 : cFn Try.prog an56 Try.f56 = some fn56 := by kernel_rfl
theorem cfn57 : cFn Try.prog an57 Try.f57 = some fn57 := by kernel_rfl
theorem cfn58 : cFn Try.prog an58 Try.f58 = some fn58 := by kernel_rfl
theorem cfn59 : cFn Try.prog an59 Try.f59 = some fn59 := by kernel_rfl
theorem cfn60 : cFn Try.prog an60 Try.f60 = some fn60 := by kernel_rfl
theorem cfn61 : cFn Try.prog an61 Try.f61 = some fn61 := by kernel_rfl
theorem cfn62 : cFn Try.prog an62 Try.f62 = some fn62 := by kernel_rfl
theorem cfn63 : cFn Try.prog an63 Try.f63 = some fn63 := by kernel_rfl
theorem cfn64 : cFn Try.prog an64 Try.f64 = some fn64 := by kernel_rfl
theorem cfn65 : cFn Try.prog an65 Try.f65 = some fn65 := by kernel_rfl
theorem cfn66 : cFn Try.prog an66 Try.f66 = some fn66 := by kernel_rfl
theorem cfn67 : cFn Try.prog an67 Try.f67 = some fn67 := by kernel_rfl
theorem cfn68 : cFn Try.prog an68 Try.f68 = some fn68 := by kernel_rfl
theorem cfn69 : cFn Try.prog an69 Try.f69 = some fn69 := by kernel_rfl
theorem cfn70 : cFn Try.prog an70 Try.f70 = some fn70 := by kernel_rfl
theorem cfn71 : cFn Try.prog an71 Try.f71 = some fn71 := by kernel_rfl
theorem cfn72 : cFn Try.prog an72 Try.f72 = some fn72 := by kernel_rfl
theorem cfn73 : cFn Try.prog an73 Try.f73 = some fn73 := by kernel_rfl
theorem cfn74 : cFn Try.prog an74 Try.f74 = some fn74 := by kernel_rfl
theorem cfn75 : cFn Try.prog an75 Try.f75 = some fn75 := by kernel_rfl
theorem cfn76 : cFn Try.prog an76 Try.f76 = some fn76 := by kernel_rfl
theorem cfn77 : cFn Try.prog an77 Try.f77 = some fn77 := by kernel_rfl
theorem cfn78 : cFn Try.prog an78 Try.f78 = some fn78 := by kernel_rfl
theorem cfn79 : cFn Try.prog an79 Try.f79 = some fn79 := by kernel_rfl
theorem cfn80 : cFn Try.prog an80 Try.f80 = some fn80 := by kernel_rfl
theorem cfn81 : cFn Try.prog an81 Try.f81 = some fn81 := by kernel_rfl
theorem cfn82 : cFn Try.prog an82 Try.f82 = some fn82 := by kernel_rfl
theorem cfn84 : cFn Try.prog an84 Try.f84 = some fn84 := by kernel_rfl
theorem cfn85 : cFn Try.prog an85 Try.f85 = some fn85 := by kernel_rfl

theorem pgOk : PgOk Try.prog pg := by
  intro f fn h
  unfold pg at h
  split at h
  · cases h; exact ⟨Try.f3, an3, Try.func3, of_decide_eq_true (by kernel_rfl), cfn3⟩
  · cases h; exact ⟨Try.f4, an4, Try.func4, of_decide_eq_true (by kernel_rfl), cfn4⟩
  · cases h; exact ⟨Try.f5, an5, Try.func5, of_decide_eq_true (by kernel_rfl), cfn5⟩
  · cases h; exact ⟨Try.f6, an6, Try.func6, of_decide_eq_true (by kernel_rfl), cfn6⟩
  · cases h; exact ⟨Try.f7, an7, Try.func7, of_decide_eq_true (by kernel_rfl), cfn7⟩
  · cases h; exact ⟨Try.f8, an8, Try.func8, of_decide_eq_true (by kernel_rfl), cfn8⟩
  · cases h; exact ⟨Try.f9, an9, Try.func9, of_decide_eq_true (by kernel_rfl), cfn9⟩
  · cases h; exact ⟨Try.f10, an10, Try.func10, of_decide_eq_true (by kernel_rfl), cfn10⟩
  · cases h; exact ⟨Try.f11, an11, Try.func11, of_decide_eq_true (by kernel_rfl), cfn11⟩
  · cases h; exact ⟨Try.f12, an12, Try.func12, of_decide_eq_true (by kernel_rfl), cfn12⟩
  · cases h; exact ⟨Try.f13, an13, Try.func13, of_decide_eq_true (by kernel_rfl), cfn13⟩
  · cases h; exact ⟨Try.f14, an14, Try.func14, of_decide_eq_true (by kernel_rfl), cfn14⟩
  · cases h; exact ⟨Try.f15, an15, Try.func15, of_decide_eq_true (by kernel_rfl), cfn15⟩
  · cases h; exact ⟨Try.f16, an16, Try.func16, of_decide_eq_true (by kernel_rfl), cfn16⟩
  · cases h; exact ⟨Try.f17, an17, Try.func17, of_decide_eq_true (by kernel_rfl), cfn17⟩
  · cases h; exact ⟨Try.f18, an18, Try.func18, of_decide_eq_true (by kernel_rfl), cfn18⟩
  · cases h; exact ⟨Try.f19, an19, Try.func19, of_decide_eq_true (by kernel_rfl), cfn19⟩
  · cases h; exact ⟨Try.f20, an20, Try.func20, of_decide_eq_true (by kernel_rfl), cfn20⟩
  · cases h; exact ⟨Try.f21, an21, Try.func21, of_decide_eq_true (by kernel_rfl), cfn21⟩
  · cases h; exact ⟨Try.f22, an22, Try.func22, of_decide_eq_true (by kernel_rfl), cfn22⟩
  · cases h; exact ⟨Try.f23, an23, Try.func23, of_decide_eq_true (by kernel_rfl), cfn23⟩
  · cases h; exact ⟨Try.f24, an24, Try.func24, of_decide_eq_true (by kernel_rfl), cfn24⟩
  · cases h; exact ⟨Try.f25, an25, Try.func25, of_decide_eq_true (by kernel_rfl), cfn25⟩
  · cases h; exact ⟨Try.f26, an26, Try.func26, of_decide_eq_true (by kernel_rfl), cfn26⟩
  · cases h; exact ⟨Try.f27, an27, Try.func27, of_decide_eq_true (by kernel_rfl), cfn27⟩
  · cases h; exact ⟨Try.f28, an28, Try.func28, of_decide_eq_true (by kernel_rfl), cfn28⟩
  · cases h; exact ⟨Try.f29, an29, Try.func29, of_decide_eq_true (by kernel_rfl), cfn29⟩
  · cases h; exact ⟨Try.f30, an30, Try.func30, of_decide_eq_true (by kernel_rfl), cfn30⟩
  · cases h; exact ⟨Try.f31, an31, Try.func31, of_decide_eq_true (by kernel_rfl), cfn31⟩
  · cases h; exact ⟨Try.f32, an32, Try.func32, of_decide_eq_true (by kernel_rfl), cfn32⟩
  · cases h; exact ⟨Try.f33, an33, Try.func33, of_decide_eq_true (by kernel_rfl), cfn33⟩
  · cases h; exact ⟨Try.f34, an34, Try.func34, of_decide_eq_true (by kernel_rfl), cfn34⟩
  · cases h; exact ⟨Try.f35, an35, Try.func35, of_decide_eq_true (by kernel_rfl), cfn35⟩
  · cases h; exact ⟨Try.f36, an36, Try.func36, of_decide_eq_true (by kernel_rfl), cfn36⟩
  · cases h; exact ⟨Try.f37, an37, Try.func37, of_decide_eq_true (by kernel_rfl), cfn37⟩
  · cases h; exact ⟨Try.f38, an38, Try.func38, of_decide_eq_true (by kernel_rfl), cfn38⟩
  · cases h; exact ⟨Try.f39, an39, Try.func39, of_decide_eq_true (by kernel_rfl), cfn39⟩
  · cases h; exact ⟨Try.f40, an40, Try.func40, of_decide_eq_true (by kernel_rfl), cfn40⟩
  · cases h; exact ⟨Try.f41, an41, Try.func41, of_decide_eq_true (by kernel_rfl), cfn41⟩
  · cases h; exact ⟨Try.f42, an42, Try.func42, of_decide_eq_true (by kernel_rfl), cfn42⟩
  · cases h; exact ⟨Try.f43, an43, Try.func43, of_decide_eq_true (by kernel_rfl), cfn43⟩
  · cases h; exact ⟨Try.f44, an44, Try.func44, of_decide_eq_true (by kernel_rfl), cfn44⟩
  · cases h; exact ⟨Try.f45, an45, Try.func45, of_decide_eq_true (by kernel_rfl), cfn45⟩
  · cases h; exact ⟨Try.f46, an46, Try.func46, of_decide_eq_true (by kernel_rfl), cfn46⟩
  · cases h; exact ⟨Try.f47, an47, Try.func47, of_decide_eq_true (by kernel_rfl), cfn47⟩
  · cases h; exact ⟨Try.f48, an48, Try.func48, of_decide_eq_true (by kernel_rfl), cfn48⟩
  · cases h; exact ⟨Try.f49, an49, Try.func49, of_decide_eq_true (by kernel_rfl), cfn49⟩
  · cases h; exact ⟨Try.f50, an50, Try.func50, of_decide_eq_true (by kernel_rfl), cfn50⟩
  · cases h; exact ⟨Try.f51, an51, Try.func51, of_decide_eq_true (by kernel_rfl), cfn51⟩
  · cases h; exact ⟨Try.f52, an52, Try.func52, of_decide_eq_true (by kernel_rfl), cfn52⟩
  · cases h; exact ⟨Try.f53, an53, Try.func53, of_decide_eq_true (by kernel_rfl), cfn53⟩
  · cases h; exact ⟨Try.f54, an54, Try.func54, of_decide_eq_true (by kernel_rfl), cfn54⟩
  · cases h; exact ⟨Try.f55, an55, Try.func55, of_decide_eq_true (by kernel_rfl), cfn55⟩
  · cases h; exact ⟨Try.f56, an56, Try.func56, of_decide_eq_true (by kernel_rfl), cfn56⟩
  · cases h; exact ⟨Try.f57, an57, Try.func57, of_decide_eq_true (by kernel_rfl), cfn57⟩
  · cases h; exact ⟨Try.f58, an58, Try.func58, of_decide_eq_true (by kernel_rfl), cfn58⟩
  · cases h; exact ⟨Try.f59, an59, Try.func59, of_decide_eq_true (by kernel_rfl), cfn59⟩
  · cases h; exact ⟨Try.f60, an60, Try.func60, of_decide_eq_true (by kernel_rfl), cfn60⟩
  · cases h; exact ⟨Try.f61, an61, Try.func61, of_decide_eq_true (by kernel_rfl), cfn61⟩
  · cases h; exact ⟨Try.f62, an62, Try.func62, of_decide_eq_true (by kernel_rfl), cfn62⟩
  · cases h; exact ⟨Try.f63, an63, Try.func63, of_decide_eq_true (by kernel_rfl), cfn63⟩
  · cases h; exact ⟨Try.f64, an64, Try.func64, of_decide_eq_true (by kernel_rfl), cfn64⟩
  · cases h; exact ⟨Try.f65, an65, Try.func65, of_decide_eq_true (by kernel_rfl), cfn65⟩
  · cases h; exact ⟨Try.f66, an66, Try.func66, of_decide_eq_true (by kernel_rfl), cfn66⟩
  · cases h; exact ⟨Try.f67, an67, Try.func67, of_decide_eq_true (by kernel_rfl), cfn67⟩
  · cases h; exact ⟨Try.f68, an68, Try.func68, of_decide_eq_true (by kernel_rfl), cfn68⟩
  · cases h; exact ⟨Try.f69, an69, Try.func69, of_decide_eq_true (by kernel_rfl), cfn69⟩
  · cases h; exact ⟨Try.f70, an70, Try.func70, of_decide_eq_true (by kernel_rfl), cfn70⟩
  · cases h; exact ⟨Try.f71, an71, Try.func71, of_decide_eq_true (by kernel_rfl), cfn71⟩
  · cases h; exact ⟨Try.f72, an72, Try.func72, of_decide_eq_true (by kernel_rfl), cfn72⟩
  · cases h; exact ⟨Try.f73, an73, Try.func73, of_decide_eq_true (by kernel_rfl), cfn73⟩
  · cases h; exact ⟨Try.f74, an74, Try.func74, of_decide_eq_true (by kernel_rfl), cfn74⟩
  · cases h; exact ⟨Try.f75, an75, Try.func75, of_decide_eq_true (by kernel_rfl), cfn75⟩
  · cases h; exact ⟨Try.f76, an76, Try.func76, of_decide_eq_true (by kernel_rfl), cfn76⟩
  · cases h; exact ⟨Try.f77, an77, Try.func77, of_decide_eq_true (by kernel_rfl), cfn77⟩
  · cases h; exact ⟨Try.f78, an78, Try.func78, of_decide_eq_true (by kernel_rfl), cfn78⟩
  · cases h; exact ⟨Try.f79, an79, Try.func79, of_decide_eq_true (by kernel_rfl), cfn79⟩
  · cases h; exact ⟨Try.f80, an80, Try.func80, of_decide_eq_true (by kernel_rfl), cfn80⟩
  · cases h; exact ⟨Try.f81, an81, Try.func81, of_decide_eq_true (by kernel_rfl), cfn81⟩
  · cases h; exact ⟨Try.f82, an82, Try.func82, of_decide_eq_true (by kernel_rfl), cfn82⟩
  · cases h; exact ⟨Try.f84, an84, Try.func84, of_decide_eq_true (by kernel_rfl), cfn84⟩
  · cases h; exact ⟨Try.f85, an85, Try.func85, of_decide_eq_true (by kernel_rfl), cfn85⟩
  · cases h
end Go.Proofs.Ytgpooiahnpemjaa
