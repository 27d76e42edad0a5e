import Derived.Test.YtpmgmepanbdfpaaDoorChecked
import Derived.Test.YtpmgmepanbdfpaaDoorVsLim
namespace Go.Proofs.YtpmgmepanbdfpaaDoor
open Go Go.Vs
set_option maxRecDepth 100000

/- spillway/spillwaylaw4.PatternTells -/
def an3 : Ann := [[0, 1, 2, 3], [2], [0, 1, 2, 3, 11], [8], [0, 1, 2, 3, 29], [8], [0, 1, 2, 3, 9], [0, 1, 2, 3, 9], [0, 1, 2, 3, 9, 33], [2], [2], [2], [2], [0, 1, 2, 3, 9, 70], [8], [0, 1, 2, 3, 9], [2], [2], [2], [2], [8]]
def fn3B0 : Cd :=
  (.seq (.seq (.rg [⟨(some 30), none, .mv (.t 9)⟩,
      ⟨(some 31), none, .mv (.t 2)⟩,
      ⟨(some 32), none, .len false (.t 31)⟩,
      ⟨(some 33), none, .bin .lss (.t 30) (.t 32)⟩] [0, 1, 2, 3, 9, 33])
  (.cond (.t 33)
    .skip
    (.exit 0)))
  (.seq (.block 1
    (.seq (.rg [⟨(some 36), none, .mv (.t 2)⟩,
        ⟨(some 37), none, .mv (.t 9)⟩,
        ⟨(some 38), none, .iad 3 (.t 36) (.t 37)⟩,
        ⟨(some 39), none, .fad 2 (.t 38)⟩,
        ⟨(some 40), none, .load false 1 (.t 39) false⟩,
        ⟨(some 41), none, .len true (.t 40)⟩,
        ⟨(some 42), none, .bin .gtr (.t 41) (.c (.int .i64 100))⟩,
        ⟨(some 43), none, .mv (.t 42)⟩,
        ⟨(some 44), some (43, false), .mv (.t 2)⟩,
        ⟨(some 45), some (43, false), .mv (.t 9)⟩,
        ⟨(some 46), some (43, false), .iad 3 (.t 44) (.t 45)⟩,
        ⟨(some 47), some (43, false), .load true 3 (.t 46) false⟩,
        ⟨(some 48), some (43, false), .call 2 (.f 9) [(.t 47)]⟩,
        ⟨(some 49), some (43, false), .mv (.t 2)⟩,
        ⟨(some 50), some (43, false), .mv (.t 9)⟩,
        ⟨(some 51), some (43, false), .iad 3 (.t 49) (.t 50)⟩,
        ⟨(some 52), some (43, false), .load true 3 (.t 51) false⟩,
        ⟨(some 53), some (43, false), .call 2 (.f 10) [(.t 52)]⟩,
        ⟨(some 54), some (43, false), .eqb true (.t 48) (.t 53)⟩,
        ⟨(some 55), none, .pick (.t 43) (.c (.bool true)) (.t 54)⟩,
        ⟨(some 56), none, .mv (.t 55)⟩,
        ⟨(some 57), some (56, false), .mv (.t 2)⟩,
        ⟨(some 58), some (56, false), .mv (.t 9)⟩,
        ⟨(some 59), some (56, false), .iad 3 (.t 57) (.t 58)⟩,
        ⟨(some 60), some (56, false), .load true 3 (.t 59) false⟩,
        ⟨(some 61), some (56, false), .mv (.t 1)⟩,
        ⟨(some 62), some (56, false), .call 2 (.f 11) [(.t 60), (.t 61)]⟩,
        ⟨(some 63), some (56, false), .mv (.t 2)⟩,
        ⟨(some 64), some (56, false), .mv (.t 9)⟩,
        ⟨(some 65), some (56, false), .iad 3 (.t 63) (.t 64)⟩,
        ⟨(some 66), some (56, false), .load true 3 (.t 65) false⟩,
        ⟨(some 67), some (56, false), .mv (.t 1)⟩,
        ⟨(some 68), some (56, false), .call 2 (.f 12) [(.t 66), (.t 67)]⟩,
        ⟨(some 69), some (56, false), .eqb true (.t 62) (.t 68)⟩,
        ⟨(some 70), none, .pick (.t 56) (.c (.bool true)) (.t 69)⟩] [0, 1, 2, 3, 9, 70])
    (.cond (.t 70)
      (.seq (.rg [⟨(some 71), none, .mv (.t 2)⟩,
          ⟨(some 72), none, .mv (.t 9)⟩,
          ⟨(some 73), none, .iad 3 (.t 71) (.t 72)⟩,
          ⟨(some 74), none, .fad 2 (.t 73)⟩,
          ⟨(some 75), none, .load false 1 (.t 74) false⟩,
          ⟨(some 76), none, .len true (.t 75)⟩,
          ⟨(some 77), none, .bin .gtr (.t 76) (.c (.int .i64 100))⟩,
          ⟨(some 8), none, .mv (.t 77)⟩] [8])
      .ret)
      .skip)))
  (.rg [⟨(some 34), none, .mv (.t 9)⟩,
      ⟨(some 35), none, .bin .add (.t 34) (.c (.int .i64 1))⟩,
      ⟨(some 9), none, .mv (.t 35)⟩] [0, 1, 2, 3, 9])))
def fn3L0 : Cd := .loop [0, 1, 2, 3, 9] fn3B0
def fn3 : Vs.Fn := ⟨4,
  (.seq (.rg [⟨(some 8), none, .mv (.c (.bool false))⟩] [0, 1, 2, 3])
  (.seq (.seq (.rg [⟨(some 10), none, .call 2 (.f 8) []⟩,
      ⟨(some 11), none, .un .not (.t 10)⟩] [0, 1, 2, 3, 11])
  (.cond (.t 11)
    (.seq (.rg [⟨(some 8), none, .mv (.c (.bool false))⟩] [8])
    .ret)
    .skip))
  (.seq (.seq (.rg [⟨(some 12), none, .mv (.t 0)⟩,
      ⟨(some 13), none, .len true (.t 12)⟩,
      ⟨(some 14), none, .bin .gtr (.t 13) (.c (.int .i64 60))⟩,
      ⟨(some 15), none, .mv (.t 14)⟩,
      ⟨(some 16), some (15, false), .mv (.t 1)⟩,
      ⟨(some 17), some (15, false), .len true (.t 16)⟩,
      ⟨(some 18), some (15, false), .bin .gtr (.t 17) (.c (.int .i64 60))⟩,
      ⟨(some 19), none, .pick (.t 15) (.c (.bool true)) (.t 18)⟩,
      ⟨(some 20), none, .mv (.t 19)⟩,
      ⟨(some 21), some (20, false), .mv (.t 2)⟩,
      ⟨(some 22), some (20, false), .len false (.t 21)⟩,
      ⟨(some 23), some (20, false), .bin .gtr (.t 22) (.c (.int .i64 12))⟩,
      ⟨(some 24), none, .pick (.t 20) (.c (.bool true)) (.t 23)⟩,
      ⟨(some 25), none, .mv (.t 24)⟩,
      ⟨(some 26), some (25, false), .mv (.t 3)⟩,
      ⟨(some 27), some (25, false), .len false (.t 26)⟩,
      ⟨(some 28), some (25, false), .bin .gtr (.t 27) (.c (.int .i64 12))⟩,
      ⟨(some 29), none, .pick (.t 25) (.c (.bool true)) (.t 28)⟩] [0, 1, 2, 3, 29])
  (.cond (.t 29)
    (.seq (.rg [⟨(some 8), none, .mv (.c (.bool true))⟩] [8])
    .ret)
    .skip))
  (.seq (.seq (.rg [⟨(some 9), none, .mv (.c (.int .i64 0))⟩] [0, 1, 2, 3, 9])
  (.block 0
    fn3L0))
  (.seq (.rg [⟨(some 78), none, .mv (.t 0)⟩,
      ⟨(some 79), none, .mv (.t 1)⟩,
      ⟨(some 80), none, .call 2 (.f 13) [(.t 78), (.t 79)]⟩,
      ⟨(some 81), none, .mv (.t 0)⟩,
      ⟨(some 82), none, .mv (.t 1)⟩,
      ⟨(some 83), none, .call 2 (.f 14) [(.t 81), (.t 82)]⟩,
      ⟨(some 84), none, .eqb false (.t 80) (.t 83)⟩,
      ⟨(some 85), none, .mv (.t 84)⟩,
      ⟨(some 86), some (85, true), .mv (.t 3)⟩,
      ⟨(some 87), some (85, true), .mv (.t 2)⟩,
      ⟨(some 88), some (85, true), .call 2 (.f 15) [(.t 86), (.t 87)]⟩,
      ⟨(some 89), some (85, true), .mv (.t 3)⟩,
      ⟨(some 90), some (85, true), .mv (.t 2)⟩,
      ⟨(some 91), some (85, true), .call 2 (.f 16) [(.t 89), (.t 90)]⟩,
      ⟨(some 92), some (85, true), .eqb false (.t 88) (.t 91)⟩,
      ⟨(some 93), none, .pick (.t 85) (.t 92) (.c (.bool false))⟩,
      ⟨(some 8), none, .mv (.t 93)⟩] [8])
  .ret))))),
  [.t 8]⟩

/- spillway/spillwaylaw4.PatternPlain -/
def an4 : Ann := [[0, 1, 2], [2], [0, 1, 2, 15], [6], [0, 1, 2, 23], [6], [0, 1, 2, 7], [0, 1, 2, 7], [0, 1, 2, 7, 27], [0, 1, 2, 7, 39], [6], [0, 1, 2, 7], [0, 1, 2, 8], [0, 1, 2, 8, 9], [0, 1, 2, 8, 9], [0, 1, 2, 8, 9, 44], [0, 1, 2, 8, 9], [0, 1, 2, 8, 9], [0, 1, 8, 10], [0, 1, 8, 10, 11], [0, 1, 8, 10, 11], [0, 1, 8, 10, 11, 52], [0, 1, 8, 10, 11], [0, 1, 8, 10, 11], [0, 1, 8, 10, 12], [0, 1, 8, 10, 12, 13], [2], [2], [2], [2], [2], [2], [2], [6]]
def fn4B0 : Cd :=
  (.seq (.seq (.rg [⟨(some 24), none, .mv (.t 7)⟩,
      ⟨(some 25), none, .mv (.t 0)⟩,
      ⟨(some 26), none, .len true (.t 25)⟩,
      ⟨(some 27), none, .bin .lss (.t 24) (.t 26)⟩] [0, 1, 2, 7, 27])
  (.cond (.t 27)
    .skip
    (.exit 0)))
  (.seq (.block 1
    (.seq (.rg [⟨(some 30), none, .mv (.t 0)⟩,
        ⟨(some 31), none, .mv (.t 7)⟩,
        ⟨(some 32), none, .ist (.t 30) (.t 31)⟩,
        ⟨(some 33), none, .bin .eql (.t 32) (.c (.int .u8 42))⟩,
        ⟨(some 34), none, .mv (.t 33)⟩,
        ⟨(some 35), some (34, false), .mv (.t 0)⟩,
        ⟨(some 36), some (34, false), .mv (.t 7)⟩,
        ⟨(some 37), some (34, false), .ist (.t 35) (.t 36)⟩,
        ⟨(some 38), some (34, false), .bin .eql (.t 37) (.c (.int .u8 63))⟩,
        ⟨(some 39), none, .pick (.t 34) (.c (.bool true)) (.t 38)⟩] [0, 1, 2, 7, 39])
    (.cond (.t 39)
      (.seq (.rg [⟨(some 6), none, .mv (.c (.bool true))⟩] [6])
      .ret)
      .skip)))
  (.rg [⟨(some 28), none, .mv (.t 7)⟩,
      ⟨(some 29), none, .bin .add (.t 28) (.c (.int .i64 1))⟩,
      ⟨(some 7), none, .mv (.t 29)⟩] [0, 1, 2, 7])))
def fn4L0 : Cd := .loop [0, 1, 2, 7] fn4B0
def fn4B1 : Cd :=
  (.seq (.seq (.rg [⟨(some 40), none, .mv (.t 9)⟩,
      ⟨(some 41), none, .mv (.t 2)⟩,
      ⟨(some 42), none, .bin .rem (.t 41) (.c (.int .u8 5))⟩,
      ⟨(some 43), none, .cvi .i64 (.t 42)⟩,
      ⟨(some 44), none, .bin .leq (.t 40) (.t 43)⟩] [0, 1, 2, 8, 9, 44])
  (.cond (.t 44)
    .skip
    (.exit 2)))
  (.seq (.block 3
    (.rg [⟨(some 47), none, .mv (.t 8)⟩,
        ⟨(some 48), none, .bin .add (.t 47) (.c (.string ⟨#[42]⟩))⟩,
        ⟨(some 8), none, .mv (.t 48)⟩] [0, 1, 2, 8, 9]))
  (.rg [⟨(some 45), none, .mv (.t 9)⟩,
      ⟨(some 46), none, .bin .add (.t 45) (.c (.int .i64 1))⟩,
      ⟨(some 9), none, .mv (.t 46)⟩] [0, 1, 2, 8, 9])))
def fn4L1 : Cd := .loop [0, 1, 2, 8, 9] fn4B1
def fn4B2 : Cd :=
  (.seq (.seq (.rg [⟨(some 49), none, .mv (.t 11)⟩,
      ⟨(some 50), none, .mv (.t 1)⟩,
      ⟨(some 51), none, .len true (.t 50)⟩,
      ⟨(some 52), none, .bin .lss (.t 49) (.t 51)⟩] [0, 1, 8, 10, 11, 52])
  (.cond (.t 52)
    .skip
    (.exit 4)))
  (.seq (.block 5
    (.rg [⟨(some 55), none, .mv (.t 10)⟩,
        ⟨(some 56), none, .bin .add (.t 55) (.c (.string ⟨#[63]⟩))⟩,
        ⟨(some 10), none, .mv (.t 56)⟩] [0, 1, 8, 10, 11]))
  (.rg [⟨(some 53), none, .mv (.t 11)⟩,
      ⟨(some 54), none, .bin .add (.t 53) (.c (.int .i64 1))⟩,
      ⟨(some 11), none, .mv (.t 54)⟩] [0, 1, 8, 10, 11])))
def fn4L2 : Cd := .loop [0, 1, 8, 10, 11] fn4B2
def fn4 : Vs.Fn := ⟨3,
  (.seq (.rg [⟨(some 6), none, .mv (.c (.bool false))⟩] [0, 1, 2])
  (.seq (.seq (.rg [⟨(some 14), none, .call 2 (.f 8) []⟩,
      ⟨(some 15), none, .un .not (.t 14)⟩] [0, 1, 2, 15])
  (.cond (.t 15)
    (.seq (.rg [⟨(some 6), none, .mv (.c (.bool false))⟩] [6])
    .ret)
    .skip))
  (.seq (.seq (.rg [⟨(some 16), none, .mv (.t 0)⟩,
      ⟨(some 17), none, .len true (.t 16)⟩,
      ⟨(some 18), none, .bin .gtr (.t 17) (.c (.int .i64 40))⟩,
      ⟨(some 19), none, .mv (.t 18)⟩,
      ⟨(some 20), some (19, false), .mv (.t 1)⟩,
      ⟨(some 21), some (19, false), .len true (.t 20)⟩,
      ⟨(some 22), some (19, false), .bin .gtr (.t 21) (.c (.int .i64 40))⟩,
      ⟨(some 23), none, .pick (.t 19) (.c (.bool true)) (.t 22)⟩] [0, 1, 2, 23])
  (.cond (.t 23)
    (.seq (.rg [⟨(some 6), none, .mv (.c (.bool true))⟩] [6])
    .ret)
    .skip))
  (.seq (.seq (.rg [⟨(some 7), none, .mv (.c (.int .i64 0))⟩] [0, 1, 2, 7])
  (.block 0
    fn4L0))
  (.seq (.rg [⟨(some 8), none, .mv (.c (.string ⟨#[]⟩))⟩] [0, 1, 2, 8])
  (.seq (.seq (.rg [⟨(some 9), none, .mv (.c (.int .i64 0))⟩] [0, 1, 2, 8, 9])
  (.block 2
    fn4L1))
  (.seq (.rg [⟨(some 10), none, .mv (.c (.string ⟨#[]⟩))⟩] [0, 1, 8, 10])
  (.seq (.seq (.rg [⟨(some 11), none, .mv (.c (.int .i64 0))⟩] [0, 1, 8, 10, 11])
  (.block 4
    fn4L2))
  (.seq (.rg [⟨(some 57), none, .mv (.t 1)⟩,
      ⟨(some 58), none, .len true (.t 57)⟩,
      ⟨(some 59), none, .mv (.t 0)⟩,
      ⟨(some 60), none, .len true (.t 59)⟩,
      ⟨(some 61), none, .bin .geq (.t 58) (.t 60)⟩,
      ⟨(some 62), none, .mv (.t 61)⟩,
      ⟨(some 63), some (62, true), .mv (.t 1)⟩,
      ⟨(some 64), some (62, true), .mv (.t 0)⟩,
      ⟨(some 65), some (62, true), .len true (.t 64)⟩,
      ⟨(some 66), some (62, true), .slst (.t 63) none (some (.t 65))⟩,
      ⟨(some 67), some (62, true), .mv (.t 0)⟩,
      ⟨(some 68), some (62, true), .bin .eql (.t 66) (.t 67)⟩,
      ⟨(some 69), none, .pick (.t 62) (.t 68) (.c (.bool false))⟩,
      ⟨(some 12), none, .mv (.t 69)⟩] [0, 1, 8, 10, 12])
  (.seq (.rg [⟨(some 70), none, .mv (.t 1)⟩,
      ⟨(some 71), none, .len true (.t 70)⟩,
      ⟨(some 72), none, .mv (.t 0)⟩,
      ⟨(some 73), none, .len true (.t 72)⟩,
      ⟨(some 74), none, .bin .geq (.t 71) (.t 73)⟩,
      ⟨(some 75), none, .mv (.t 74)⟩,
      ⟨(some 76), some (75, true), .mv (.t 1)⟩,
      ⟨(some 77), some (75, true), .mv (.t 1)⟩,
      ⟨(some 78), some (75, true), .len true (.t 77)⟩,
      ⟨(some 79), some (75, true), .mv (.t 0)⟩,
      ⟨(some 80), some (75, true), .len true (.t 79)⟩,
      ⟨(some 81), some (75, true), .bin .sub (.t 78) (.t 80)⟩,
      ⟨(some 82), some (75, true), .slst (.t 76) (some (.t 81)) none⟩,
      ⟨(some 83), some (75, true), .mv (.t 0)⟩,
      ⟨(some 84), some (75, true), .bin .eql (.t 82) (.t 83)⟩,
      ⟨(some 85), none, .pick (.t 75) (.t 84) (.c (.bool false))⟩,
      ⟨(some 13), none, .mv (.t 85)⟩] [0, 1, 8, 10, 12, 13])
  (.seq (.rg [⟨(some 86), none, .mv (.t 0)⟩,
      ⟨(some 87), none, .mv (.t 1)⟩,
      ⟨(some 88), none, .call 2 (.f 13) [(.t 86), (.t 87)]⟩,
      ⟨(some 89), none, .mv (.t 0)⟩,
      ⟨(some 90), none, .mv (.t 1)⟩,
      ⟨(some 91), none, .bin .eql (.t 89) (.t 90)⟩,
      ⟨(some 92), none, .eqb false (.t 88) (.t 91)⟩,
      ⟨(some 93), none, .mv (.t 92)⟩,
      ⟨(some 94), some (93, true), .mv (.t 0)⟩,
      ⟨(some 95), some (93, true), .mv (.t 8)⟩,
      ⟨(some 96), some (93, true), .bin .add (.t 94) (.t 95)⟩,
      ⟨(some 97), some (93, true), .mv (.t 1)⟩,
      ⟨(some 98), some (93, true), .call 2 (.f 13) [(.t 96), (.t 97)]⟩,
      ⟨(some 99), some (93, true), .mv (.t 12)⟩,
      ⟨(some 100), some (93, true), .eqb false (.t 98) (.t 99)⟩,
      ⟨(some 101), none, .pick (.t 93) (.t 100) (.c (.bool false))⟩,
      ⟨(some 102), none, .mv (.t 101)⟩,
      ⟨(some 103), some (102, true), .mv (.t 8)⟩,
      ⟨(some 104), some (102, true), .mv (.t 0)⟩,
      ⟨(some 105), some (102, true), .bin .add (.t 103) (.t 104)⟩,
      ⟨(some 106), some (102, true), .mv (.t 1)⟩,
      ⟨(some 107), some (102, true), .call 2 (.f 13) [(.t 105), (.t 106)]⟩,
      ⟨(some 108), some (102, true), .mv (.t 13)⟩,
      ⟨(some 109), some (102, true), .eqb false (.t 107) (.t 108)⟩,
      ⟨(some 110), none, .pick (.t 102) (.t 109) (.c (.bool false))⟩,
      ⟨(some 111), none, .mv (.t 110)⟩,
      ⟨(some 112), some (111, true), .mv (.t 8)⟩,
      ⟨(some 113), some (111, true), .mv (.t 1)⟩,
      ⟨(some 114), some (111, true), .call 2 (.f 13) [(.t 112), (.t 113)]⟩,
      ⟨(some 115), none, .pick (.t 111) (.t 114) (.c (.bool false))⟩,
      ⟨(some 116), none, .mv (.t 115)⟩,
      ⟨(some 117), some (116, true), .mv (.t 10)⟩,
      ⟨(some 118), some (116, true), .mv (.t 1)⟩,
      ⟨(some 119), some (116, true), .call 2 (.f 13) [(.t 117), (.t 118)]⟩,
      ⟨(some 120), none, .pick (.t 116) (.t 119) (.c (.bool false))⟩,
      ⟨(some 121), none, .mv (.t 120)⟩,
      ⟨(some 122), some (121, true), .mv (.t 10)⟩,
      ⟨(some 123), some (121, true), .bin .add (.t 122) (.c (.string ⟨#[63]⟩))⟩,
      ⟨(some 124), some (121, true), .mv (.t 1)⟩,
      ⟨(some 125), some (121, true), .call 2 (.f 13) [(.t 123), (.t 124)]⟩,
      ⟨(some 126), some (121, true), .un .not (.t 125)⟩,
      ⟨(some 127), none, .pick (.t 121) (.t 126) (.c (.bool false))⟩,
      ⟨(some 128), none, .mv (.t 127)⟩,
      ⟨(some 129), some (128, true), .mv (.t 0)⟩,
      ⟨(some 130), some (128, true), .build [(.str ⟨#[]⟩), (.int .i64 0), (.str ⟨#[]⟩)] [(1, 1, (.c (.int .i64 3))), (2, 1, (.t 129))]⟩,
      ⟨(some 131), some (128, true), .mv (.t 1)⟩,
      ⟨(some 132), some (128, true), .call 2 (.f 11) [(.t 130), (.t 131)]⟩,
      ⟨(some 133), some (128, true), .mv (.t 12)⟩,
      ⟨(some 134), some (128, true), .eqb false (.t 132) (.t 133)⟩,
      ⟨(some 135), none, .pick (.t 128) (.t 134) (.c (.bool false))⟩,
      ⟨(some 6), none, .mv (.t 135)⟩] [6])
  .ret))))))))))),
  [.t 6]⟩

/- spillway/spillwaylaw4.PatternParts -/
def an5 : Ann := [[0, 1, 2], [2], [0, 1, 2, 13], [6], [0, 1, 2, 26], [6], [0, 1, 2, 7], [0, 1, 2, 7, 8], [0, 1, 2, 7, 8], [0, 1, 2, 7, 8, 30], [0, 1, 2, 7, 8, 9], [0, 1, 2, 7, 8, 9], [0, 1, 2, 7, 8, 9, 41], [2], [2], [0, 1, 2, 7, 8, 9], [0, 1, 2, 7, 8, 9], [0, 1, 2, 7, 8], [0, 1, 2, 7, 10], [0, 1, 2, 7, 10, 11], [0, 1, 2, 7, 10, 11], [0, 1, 2, 7, 10, 11, 59], [2], [2], [0, 1, 2, 7, 10, 11], [0, 1, 2, 7, 10, 11], [2], [2], [6]]
def fn5B0 : Cd :=
  (.seq (.seq (.rg [⟨(some 34), none, .mv (.t 9)⟩,
      ⟨(some 35), none, .mv (.t 2)⟩,
      ⟨(some 36), none, .len true (.t 35)⟩,
      ⟨(some 37), none, .bin .leq (.t 34) (.t 36)⟩,
      ⟨(some 38), none, .mv (.t 37)⟩,
      ⟨(some 39), some (38, true), .mv (.t 7)⟩,
      ⟨(some 40), some (38, true), .un .not (.t 39)⟩,
      ⟨(some 41), none, .pick (.t 38) (.t 40) (.c (.bool false))⟩] [0, 1, 2, 7, 8, 9, 41])
  (.cond (.t 41)
    .skip
    (.exit 2)))
  (.seq (.block 3
    (.rg [⟨(some 44), none, .mv (.t 0)⟩,
        ⟨(some 45), none, .mv (.t 2)⟩,
        ⟨(some 46), none, .mv (.t 8)⟩,
        ⟨(some 47), none, .slst (.t 45) none (some (.t 46))⟩,
        ⟨(some 48), none, .call 2 (.f 13) [(.t 44), (.t 47)]⟩,
        ⟨(some 49), none, .mv (.t 48)⟩,
        ⟨(some 50), some (49, true), .mv (.t 1)⟩,
        ⟨(some 51), some (49, true), .mv (.t 2)⟩,
        ⟨(some 52), some (49, true), .mv (.t 9)⟩,
        ⟨(some 53), some (49, true), .slst (.t 51) (some (.t 52)) none⟩,
        ⟨(some 54), some (49, true), .call 2 (.f 13) [(.t 50), (.t 53)]⟩,
        ⟨(some 55), none, .pick (.t 49) (.t 54) (.c (.bool false))⟩,
        ⟨(some 7), none, .mv (.t 55)⟩] [0, 1, 2, 7, 8, 9]))
  (.rg [⟨(some 42), none, .mv (.t 9)⟩,
      ⟨(some 43), none, .bin .add (.t 42) (.c (.int .i64 1))⟩,
      ⟨(some 9), none, .mv (.t 43)⟩] [0, 1, 2, 7, 8, 9])))
def fn5L0 : Cd := .loop [0, 1, 2, 7, 8, 9] fn5B0
def fn5B1 : Cd :=
  (.seq (.seq (.rg [⟨(some 27), none, .mv (.t 8)⟩,
      ⟨(some 28), none, .mv (.t 2)⟩,
      ⟨(some 29), none, .len true (.t 28)⟩,
      ⟨(some 30), none, .bin .leq (.t 27) (.t 29)⟩] [0, 1, 2, 7, 8, 30])
  (.cond (.t 30)
    .skip
    (.exit 0)))
  (.seq (.block 1
    (.seq (.rg [⟨(some 33), none, .mv (.t 8)⟩,
        ⟨(some 9), none, .mv (.t 33)⟩] [0, 1, 2, 7, 8, 9])
    (.block 2
      fn5L0)))
  (.rg [⟨(some 31), none, .mv (.t 8)⟩,
      ⟨(some 32), none, .bin .add (.t 31) (.c (.int .i64 1))⟩,
      ⟨(some 8), none, .mv (.t 32)⟩] [0, 1, 2, 7, 8])))
def fn5L1 : Cd := .loop [0, 1, 2, 7, 8] fn5B1
def fn5B2 : Cd :=
  (.seq (.seq (.rg [⟨(some 56), none, .mv (.t 11)⟩,
      ⟨(some 57), none, .mv (.t 2)⟩,
      ⟨(some 58), none, .len true (.t 57)⟩,
      ⟨(some 59), none, .bin .leq (.t 56) (.t 58)⟩] [0, 1, 2, 7, 10, 11, 59])
  (.cond (.t 59)
    .skip
    (.exit 4)))
  (.seq (.block 5
    (.rg [⟨(some 62), none, .mv (.t 10)⟩,
        ⟨(some 63), none, .mv (.t 62)⟩,
        ⟨(some 64), some (63, false), .mv (.t 0)⟩,
        ⟨(some 65), some (63, false), .mv (.t 2)⟩,
        ⟨(some 66), some (63, false), .mv (.t 11)⟩,
        ⟨(some 67), some (63, false), .slst (.t 65) none (some (.t 66))⟩,
        ⟨(some 68), some (63, false), .call 2 (.f 13) [(.t 64), (.t 67)]⟩,
        ⟨(some 69), some (63, false), .mv (.t 68)⟩,
        ⟨(some 70), some (69, true), .mv (.t 1)⟩,
        ⟨(some 71), some (69, true), .mv (.t 2)⟩,
        ⟨(some 72), some (69, true), .mv (.t 11)⟩,
        ⟨(some 73), some (69, true), .slst (.t 71) (some (.t 72)) none⟩,
        ⟨(some 74), some (69, true), .call 2 (.f 13) [(.t 70), (.t 73)]⟩,
        ⟨(some 75), some (63, false), .pick (.t 69) (.t 74) (.c (.bool false))⟩,
        ⟨(some 76), none, .pick (.t 63) (.c (.bool true)) (.t 75)⟩,
        ⟨(some 10), none, .mv (.t 76)⟩] [0, 1, 2, 7, 10, 11]))
  (.rg [⟨(some 60), none, .mv (.t 11)⟩,
      ⟨(some 61), none, .bin .add (.t 60) (.c (.int .i64 1))⟩,
      ⟨(some 11), none, .mv (.t 61)⟩] [0, 1, 2, 7, 10, 11])))
def fn5L2 : Cd := .loop [0, 1, 2, 7, 10, 11] fn5B2
def fn5 : Vs.Fn := ⟨3,
  (.seq (.rg [⟨(some 6), none, .mv (.c (.bool false))⟩] [0, 1, 2])
  (.seq (.seq (.rg [⟨(some 12), none, .call 2 (.f 8) []⟩,
      ⟨(some 13), none, .un .not (.t 12)⟩] [0, 1, 2, 13])
  (.cond (.t 13)
    (.seq (.rg [⟨(some 6), none, .mv (.c (.bool false))⟩] [6])
    .ret)
    .skip))
  (.seq (.seq (.rg [⟨(some 14), none, .mv (.t 0)⟩,
      ⟨(some 15), none, .len true (.t 14)⟩,
      ⟨(some 16), none, .bin .gtr (.t 15) (.c (.int .i64 20))⟩,
      ⟨(some 17), none, .mv (.t 16)⟩,
      ⟨(some 18), some (17, false), .mv (.t 1)⟩,
      ⟨(some 19), some (17, false), .len true (.t 18)⟩,
      ⟨(some 20), some (17, false), .bin .gtr (.t 19) (.c (.int .i64 20))⟩,
      ⟨(some 21), none, .pick (.t 17) (.c (.bool true)) (.t 20)⟩,
      ⟨(some 22), none, .mv (.t 21)⟩,
      ⟨(some 23), some (22, false), .mv (.t 2)⟩,
      ⟨(some 24), some (22, false), .len true (.t 23)⟩,
      ⟨(some 25), some (22, false), .bin .gtr (.t 24) (.c (.int .i64 30))⟩,
      ⟨(some 26), none, .pick (.t 22) (.c (.bool true)) (.t 25)⟩] [0, 1, 2, 26])
  (.cond (.t 26)
    (.seq (.rg [⟨(some 6), none, .mv (.c (.bool true))⟩] [6])
    .ret)
    .skip))
  (.seq (.rg [⟨(some 7), none, .mv (.c (.bool false))⟩] [0, 1, 2, 7])
  (.seq (.seq (.rg [⟨(some 8), none, .mv (.c (.int .i64 0))⟩] [0, 1, 2, 7, 8])
  (.block 0
    fn5L1))
  (.seq (.rg [⟨(some 10), none, .mv (.c (.bool false))⟩] [0, 1, 2, 7, 10])
  (.seq (.seq (.rg [⟨(some 11), none, .mv (.c (.int .i64 0))⟩] [0, 1, 2, 7, 10, 11])
  (.block 4
    fn5L2))
  (.seq (.rg [⟨(some 77), none, .mv (.t 0)⟩,
      ⟨(some 78), none, .bin .add (.t 77) (.c (.string ⟨#[42]⟩))⟩,
      ⟨(some 79), none, .mv (.t 1)⟩,
      ⟨(some 80), none, .bin .add (.t 78) (.t 79)⟩,
      ⟨(some 81), none, .mv (.t 2)⟩,
      ⟨(some 82), none, .call 2 (.f 13) [(.t 80), (.t 81)]⟩,
      ⟨(some 83), none, .mv (.t 7)⟩,
      ⟨(some 84), none, .eqb false (.t 82) (.t 83)⟩,
      ⟨(some 85), none, .mv (.t 84)⟩,
      ⟨(some 86), some (85, true), .mv (.t 0)⟩,
      ⟨(some 87), some (85, true), .mv (.t 1)⟩,
      ⟨(some 88), some (85, true), .bin .add (.t 86) (.t 87)⟩,
      ⟨(some 89), some (85, true), .mv (.t 2)⟩,
      ⟨(some 90), some (85, true), .call 2 (.f 13) [(.t 88), (.t 89)]⟩,
      ⟨(some 91), some (85, true), .mv (.t 10)⟩,
      ⟨(some 92), some (85, true), .eqb false (.t 90) (.t 91)⟩,
      ⟨(some 93), none, .pick (.t 85) (.t 92) (.c (.bool false))⟩,
      ⟨(some 6), none, .mv (.t 93)⟩] [6])
  .ret)))))))),
  [.t 6]⟩

/- spillway/spillwaylaw4.PatternAll -/
def an6 : Ann := [[0, 0, 0], [0, 1, 5], [2], [0, 1, 5, 12], [6], [0, 1, 5, 26], [6], [2], [0, 1, 5, 7], [2], [0, 5, 7, 8], [0, 5, 7, 8, 9, 10], [0, 5, 7, 8, 9, 10], [2], [2], [2], [2], [6]]
def fn6 : Vs.Fn := ⟨3,
  (.seq (.rg [⟨(some 5), none, .boxf 3 (.t 2)⟩,
      ⟨(some 6), none, .mv (.c (.bool false))⟩] [0, 1, 5])
  (.seq (.seq (.rg [⟨(some 11), none, .call 2 (.f 8) []⟩,
      ⟨(some 12), none, .un .not (.t 11)⟩] [0, 1, 5, 12])
  (.cond (.t 12)
    (.seq (.rg [⟨(some 6), none, .mv (.c (.bool false))⟩] [6])
    .ret)
    .skip))
  (.seq (.seq (.rg [⟨(some 13), none, .mv (.t 0)⟩,
      ⟨(some 14), none, .len false (.t 13)⟩,
      ⟨(some 15), none, .bin .gtr (.t 14) (.c (.int .i64 12))⟩,
      ⟨(some 16), none, .mv (.t 15)⟩,
      ⟨(some 17), some (16, false), .mv (.t 1)⟩,
      ⟨(some 18), some (16, false), .len false (.t 17)⟩,
      ⟨(some 19), some (16, false), .bin .gtr (.t 18) (.c (.int .i64 10))⟩,
      ⟨(some 20), none, .pick (.t 16) (.c (.bool true)) (.t 19)⟩,
      ⟨(some 21), none, .mv (.t 20)⟩,
      ⟨(some 22), some (21, false), .fad 2 (.t 5)⟩,
      ⟨(some 23), some (21, false), .load false 1 (.t 22) false⟩,
      ⟨(some 24), some (21, false), .len true (.t 23)⟩,
      ⟨(some 25), some (21, false), .bin .gtr (.t 24) (.c (.int .i64 100))⟩,
      ⟨(some 26), none, .pick (.t 21) (.c (.bool true)) (.t 25)⟩] [0, 1, 5, 26])
  (.cond (.t 26)
    (.seq (.rg [⟨(some 6), none, .mv (.c (.bool true))⟩] [6])
    .ret)
    .skip))
  (.seq (.rg [⟨(some 27), none, .mv (.t 0)⟩,
      ⟨(some 28), none, .mv (.t 1)⟩,
      ⟨(some 29), none, .call 2 (.f 15) [(.t 27), (.t 28)]⟩,
      ⟨(some 7), none, .mv (.t 29)⟩] [0, 1, 5, 7])
  (.seq (.rg [⟨(some 30), none, .mv (.t 0)⟩,
      ⟨(some 31), none, .mv (.t 1)⟩,
      ⟨(some 32), none, .apn 3 40 (.t 31)⟩,
      ⟨(some 33), none, .load true 3 (.t 5) false⟩,
      ⟨(some 34), none, .bslice 1 3 [(.str ⟨#[]⟩), (.int .i64 0), (.str ⟨#[]⟩)] [(0, (.t 33))]⟩,
      ⟨(some 35), none, .app 3 40 (.t 32) (.t 34)⟩,
      ⟨(some 36), none, .call 2 (.f 15) [(.t 30), (.t 35)]⟩,
      ⟨(some 8), none, .mv (.t 36)⟩] [0, 5, 7, 8])
  (.seq (.rg [⟨(some 37), none, .load true 3 (.t 5) false⟩,
      ⟨(some 38), none, .load true 3 (.t 5) true⟩,
      ⟨(some 9), none, .alloc [(.str ⟨#[]⟩), (.int .i64 0), (.str ⟨#[]⟩)]⟩,
      ⟨(some 10), none, .alloc [(.str ⟨#[]⟩), (.int .i64 0), (.str ⟨#[]⟩)]⟩,
      ⟨none, none, .store 3 (.t 9) (.t 37)⟩,
      ⟨none, none, .store 3 (.t 10) (.t 38)⟩] [0, 5, 7, 8, 9, 10])
  (.seq (.rg [⟨(some 39), none, .fad 1 (.t 9)⟩,
      ⟨none, none, .store 1 (.t 39) (.c (.int .i64 1))⟩,
      ⟨(some 40), none, .fad 1 (.t 10)⟩,
      ⟨none, none, .store 1 (.t 40) (.c (.int .i64 2))⟩] [0, 5, 7, 8, 9, 10])
  (.seq (.rg [⟨(some 41), none, .mv (.t 0)⟩,
      ⟨(some 42), none, .call 2 (.f 15) [(.t 41), (.c (.slice none 0 0))]⟩,
      ⟨(some 43), none, .mv (.t 42)⟩,
      ⟨(some 44), some (43, true), .mv (.t 8)⟩,
      ⟨(some 45), some (43, true), .mv (.t 7)⟩,
      ⟨(some 46), some (43, true), .mv (.t 45)⟩,
      ⟨(some 47), some (46, true), .mv (.t 0)⟩,
      ⟨(some 48), some (46, true), .load true 3 (.t 5) false⟩,
      ⟨(some 49), some (46, true), .bslice 1 3 [(.str ⟨#[]⟩), (.int .i64 0), (.str ⟨#[]⟩)] [(0, (.t 48))]⟩,
      ⟨(some 50), some (46, true), .call 2 (.f 15) [(.t 47), (.t 49)]⟩,
      ⟨(some 51), some (43, true), .pick (.t 46) (.t 50) (.c (.bool false))⟩,
      ⟨(some 52), some (43, true), .eqb false (.t 44) (.t 51)⟩,
      ⟨(some 53), none, .pick (.t 43) (.t 52) (.c (.bool false))⟩,
      ⟨(some 54), none, .mv (.t 53)⟩,
      ⟨(some 55), some (54, true), .mv (.t 0)⟩,
      ⟨(some 56), some (54, true), .load true 3 (.t 9) false⟩,
      ⟨(some 57), some (54, true), .bslice 1 3 [(.str ⟨#[]⟩), (.int .i64 0), (.str ⟨#[]⟩)] [(0, (.t 56))]⟩,
      ⟨(some 58), some (54, true), .call 2 (.f 15) [(.t 55), (.t 57)]⟩,
      ⟨(some 59), some (54, true), .mv (.t 0)⟩,
      ⟨(some 60), some (54, true), .load true 3 (.t 10) false⟩,
      ⟨(some 61), some (54, true), .bslice 1 3 [(.str ⟨#[]⟩), (.int .i64 0), (.str ⟨#[]⟩)] [(0, (.t 60))]⟩,
      ⟨(some 62), some (54, true), .call 2 (.f 15) [(.t 59), (.t 61)]⟩,
      ⟨(some 63), some (54, true), .eqb true (.t 58) (.t 62)⟩,
      ⟨(some 64), none, .pick (.t 54) (.t 63) (.c (.bool false))⟩,
      ⟨(some 6), none, .mv (.t 64)⟩] [6])
  .ret)))))))),
  [.t 6]⟩

/- spillway/spillwaylaw4.PatternStars -/
def an7 : Ann := [[0, 1, 2], [2], [0, 1, 2, 15], [6], [0, 1, 2, 23], [6], [0, 1, 2, 7], [0, 1, 2, 7, 8], [0, 1, 2, 7, 8], [0, 1, 2, 7, 8, 27], [0, 1, 2, 7, 8], [0, 1, 2, 7, 8, 9], [0, 1, 2, 7, 8, 9], [0, 1, 2, 7, 8, 9, 47], [0, 1, 2, 7, 8, 9], [0, 1, 2, 7, 8, 9], [0, 1, 2, 7, 8], [0, 1, 2, 7, 10], [0, 1, 2, 7, 10, 11], [0, 1, 2, 7, 10, 11], [0, 1, 2, 7, 10, 11, 56], [0, 1, 2, 7, 10, 11], [0, 1, 2, 7, 10, 11], [0, 1, 2, 7, 10, 12], [0, 1, 2, 7, 10, 12, 13], [0, 1, 2, 7, 10, 12, 13], [0, 1, 2, 7, 10, 12, 13, 62], [0, 1, 2, 7, 10, 12, 13], [0, 1, 2, 7, 10, 12, 13], [2], [2], [2], [2], [6]]
def fn7B0 : Cd :=
  (.seq (.seq (.rg [⟨(some 37), none, .mv (.t 0)⟩,
      ⟨(some 38), none, .mv (.t 8)⟩,
      ⟨(some 39), none, .ist (.t 37) (.t 38)⟩,
      ⟨(some 40), none, .bin .eql (.t 39) (.c (.int .u8 42))⟩,
      ⟨(some 41), none, .mv (.t 40)⟩,
      ⟨(some 42), some (41, true), .mv (.t 9)⟩,
      ⟨(some 43), some (41, true), .mv (.t 2)⟩,
      ⟨(some 44), some (41, true), .bin .rem (.t 43) (.c (.int .u8 6))⟩,
      ⟨(some 45), some (41, true), .cvi .i64 (.t 44)⟩,
      ⟨(some 46), some (41, true), .bin .lss (.t 42) (.t 45)⟩,
      ⟨(some 47), none, .pick (.t 41) (.t 46) (.c (.bool false))⟩] [0, 1, 2, 7, 8, 9, 47])
  (.cond (.t 47)
    .skip
    (.exit 2)))
  (.seq (.block 3
    (.rg [⟨(some 50), none, .mv (.t 7)⟩,
        ⟨(some 51), none, .bin .add (.t 50) (.c (.string ⟨#[42]⟩))⟩,
        ⟨(some 7), none, .mv (.t 51)⟩] [0, 1, 2, 7, 8, 9]))
  (.rg [⟨(some 48), none, .mv (.t 9)⟩,
      ⟨(some 49), none, .bin .add (.t 48) (.c (.int .i64 1))⟩,
      ⟨(some 9), none, .mv (.t 49)⟩] [0, 1, 2, 7, 8, 9])))
def fn7L0 : Cd := .loop [0, 1, 2, 7, 8, 9] fn7B0
def fn7B1 : Cd :=
  (.seq (.seq (.rg [⟨(some 24), none, .mv (.t 8)⟩,
      ⟨(some 25), none, .mv (.t 0)⟩,
      ⟨(some 26), none, .len true (.t 25)⟩,
      ⟨(some 27), none, .bin .lss (.t 24) (.t 26)⟩] [0, 1, 2, 7, 8, 27])
  (.cond (.t 27)
    .skip
    (.exit 0)))
  (.seq (.block 1
    (.seq (.rg [⟨(some 30), none, .mv (.t 7)⟩,
        ⟨(some 31), none, .mv (.t 0)⟩,
        ⟨(some 32), none, .mv (.t 8)⟩,
        ⟨(some 33), none, .mv (.t 8)⟩,
        ⟨(some 34), none, .bin .add (.t 33) (.c (.int .i64 1))⟩,
        ⟨(some 35), none, .slst (.t 31) (some (.t 32)) (some (.t 34))⟩,
        ⟨(some 36), none, .bin .add (.t 30) (.t 35)⟩,
        ⟨(some 7), none, .mv (.t 36)⟩] [0, 1, 2, 7, 8])
    (.seq (.rg [⟨(some 9), none, .mv (.c (.int .i64 0))⟩] [0, 1, 2, 7, 8, 9])
    (.block 2
      fn7L0))))
  (.rg [⟨(some 28), none, .mv (.t 8)⟩,
      ⟨(some 29), none, .bin .add (.t 28) (.c (.int .i64 1))⟩,
      ⟨(some 8), none, .mv (.t 29)⟩] [0, 1, 2, 7, 8])))
def fn7L1 : Cd := .loop [0, 1, 2, 7, 8] fn7B1
def fn7B2 : Cd :=
  (.seq (.seq (.rg [⟨(some 52), none, .mv (.t 11)⟩,
      ⟨(some 53), none, .mv (.t 2)⟩,
      ⟨(some 54), none, .bin .rem (.t 53) (.c (.int .u8 40))⟩,
      ⟨(some 55), none, .cvi .i64 (.t 54)⟩,
      ⟨(some 56), none, .bin .lss (.t 52) (.t 55)⟩] [0, 1, 2, 7, 10, 11, 56])
  (.cond (.t 56)
    .skip
    (.exit 4)))
  (.seq (.block 5
    (.rg [⟨(some 59), none, .mv (.t 10)⟩,
        ⟨(some 60), none, .bin .add (.t 59) (.c (.string ⟨#[97, 42]⟩))⟩,
        ⟨(some 10), none, .mv (.t 60)⟩] [0, 1, 2, 7, 10, 11]))
  (.rg [⟨(some 57), none, .mv (.t 11)⟩,
      ⟨(some 58), none, .bin .add (.t 57) (.c (.int .i64 1))⟩,
      ⟨(some 11), none, .mv (.t 58)⟩] [0, 1, 2, 7, 10, 11])))
def fn7L2 : Cd := .loop [0, 1, 2, 7, 10, 11] fn7B2
def fn7B3 : Cd :=
  (.seq (.seq (.rg [⟨(some 61), none, .mv (.t 13)⟩,
      ⟨(some 62), none, .bin .lss (.t 61) (.c (.int .i64 60))⟩] [0, 1, 2, 7, 10, 12, 13, 62])
  (.cond (.t 62)
    .skip
    (.exit 6)))
  (.seq (.block 7
    (.rg [⟨(some 65), none, .mv (.t 12)⟩,
        ⟨(some 66), none, .bin .add (.t 65) (.c (.string ⟨#[97]⟩))⟩,
        ⟨(some 12), none, .mv (.t 66)⟩] [0, 1, 2, 7, 10, 12, 13]))
  (.rg [⟨(some 63), none, .mv (.t 13)⟩,
      ⟨(some 64), none, .bin .add (.t 63) (.c (.int .i64 1))⟩,
      ⟨(some 13), none, .mv (.t 64)⟩] [0, 1, 2, 7, 10, 12, 13])))
def fn7L3 : Cd := .loop [0, 1, 2, 7, 10, 12, 13] fn7B3
def fn7 : Vs.Fn := ⟨3,
  (.seq (.rg [⟨(some 6), none, .mv (.c (.bool false))⟩] [0, 1, 2])
  (.seq (.seq (.rg [⟨(some 14), none, .call 2 (.f 8) []⟩,
      ⟨(some 15), none, .un .not (.t 14)⟩] [0, 1, 2, 15])
  (.cond (.t 15)
    (.seq (.rg [⟨(some 6), none, .mv (.c (.bool false))⟩] [6])
    .ret)
    .skip))
  (.seq (.seq (.rg [⟨(some 16), none, .mv (.t 0)⟩,
      ⟨(some 17), none, .len true (.t 16)⟩,
      ⟨(some 18), none, .bin .gtr (.t 17) (.c (.int .i64 20))⟩,
      ⟨(some 19), none, .mv (.t 18)⟩,
      ⟨(some 20), some (19, false), .mv (.t 1)⟩,
      ⟨(some 21), some (19, false), .len true (.t 20)⟩,
      ⟨(some 22), some (19, false), .bin .gtr (.t 21) (.c (.int .i64 40))⟩,
      ⟨(some 23), none, .pick (.t 19) (.c (.bool true)) (.t 22)⟩] [0, 1, 2, 23])
  (.cond (.t 23)
    (.seq (.rg [⟨(some 6), none, .mv (.c (.bool true))⟩] [6])
    .ret)
    .skip))
  (.seq (.rg [⟨(some 7), none, .mv (.c (.string ⟨#[]⟩))⟩] [0, 1, 2, 7])
  (.seq (.seq (.rg [⟨(some 8), none, .mv (.c (.int .i64 0))⟩] [0, 1, 2, 7, 8])
  (.block 0
    fn7L1))
  (.seq (.rg [⟨(some 10), none, .mv (.c (.string ⟨#[]⟩))⟩] [0, 1, 2, 7, 10])
  (.seq (.seq (.rg [⟨(some 11), none, .mv (.c (.int .i64 0))⟩] [0, 1, 2, 7, 10, 11])
  (.block 4
    fn7L2))
  (.seq (.rg [⟨(some 12), none, .mv (.c (.string ⟨#[]⟩))⟩] [0, 1, 2, 7, 10, 12])
  (.seq (.seq (.rg [⟨(some 13), none, .mv (.c (.int .i64 0))⟩] [0, 1, 2, 7, 10, 12, 13])
  (.block 6
    fn7L3))
  (.seq (.rg [⟨(some 67), none, .mv (.t 0)⟩,
      ⟨(some 68), none, .mv (.t 1)⟩,
      ⟨(some 69), none, .call 2 (.f 13) [(.t 67), (.t 68)]⟩,
      ⟨(some 70), none, .mv (.t 7)⟩,
      ⟨(some 71), none, .mv (.t 1)⟩,
      ⟨(some 72), none, .call 2 (.f 13) [(.t 70), (.t 71)]⟩,
      ⟨(some 73), none, .eqb false (.t 69) (.t 72)⟩,
      ⟨(some 74), none, .mv (.t 73)⟩,
      ⟨(some 75), some (74, true), .mv (.t 10)⟩,
      ⟨(some 76), some (74, true), .bin .add (.t 75) (.c (.string ⟨#[98]⟩))⟩,
      ⟨(some 77), some (74, true), .mv (.t 12)⟩,
      ⟨(some 78), some (74, true), .call 2 (.f 13) [(.t 76), (.t 77)]⟩,
      ⟨(some 79), some (74, true), .un .not (.t 78)⟩,
      ⟨(some 80), none, .pick (.t 74) (.t 79) (.c (.bool false))⟩,
      ⟨(some 81), none, .mv (.t 80)⟩,
      ⟨(some 82), some (81, true), .mv (.t 10)⟩,
      ⟨(some 83), some (81, true), .mv (.t 12)⟩,
      ⟨(some 84), some (81, true), .call 2 (.f 13) [(.t 82), (.t 83)]⟩,
      ⟨(some 85), some (81, true), .mv (.t 2)⟩,
      ⟨(some 86), some (81, true), .bin .rem (.t 85) (.c (.int .u8 40))⟩,
      ⟨(some 87), some (81, true), .bin .gtr (.t 86) (.c (.int .u8 0))⟩,
      ⟨(some 88), some (81, true), .eqb false (.t 84) (.t 87)⟩,
      ⟨(some 89), none, .pick (.t 81) (.t 88) (.c (.bool false))⟩,
      ⟨(some 6), none, .mv (.t 89)⟩] [6])
  .ret)))))))))),
  [.t 6]⟩

/- spillway/spillwaylaw4.known -/
def an8 : Ann := [[], [1], [2], [2], [2], [2], [2], [2], [0]]
def fn8 : Vs.Fn := ⟨0,
  (.seq (.rg [⟨(some 0), none, .mv (.c (.bool false))⟩] [])
  (.seq (.rg [⟨(some 2), none, .build [(.str ⟨#[]⟩), (.str ⟨#[]⟩)] [(0, 1, (.c (.string ⟨#[97]⟩))), (1, 1, (.c (.string ⟨#[97, 98, 99]⟩)))]⟩,
      ⟨(some 3), none, .bslice 1 2 [(.str ⟨#[]⟩), (.str ⟨#[]⟩)] [(0, (.t 2))]⟩,
      ⟨(some 1), none, .mv (.t 3)⟩] [1])
  (.seq (.rg [⟨(some 4), none, .call 2 (.f 13) [(.c (.string ⟨#[97, 42, 99]⟩)), (.c (.string ⟨#[97, 98, 99]⟩))]⟩,
      ⟨(some 5), none, .mv (.t 4)⟩,
      ⟨(some 6), some (5, true), .call 2 (.f 13) [(.c (.string ⟨#[97, 63, 99]⟩)), (.c (.string ⟨#[97, 99]⟩))]⟩,
      ⟨(some 7), some (5, true), .un .not (.t 6)⟩,
      ⟨(some 8), none, .pick (.t 5) (.t 7) (.c (.bool false))⟩,
      ⟨(some 9), none, .mv (.t 8)⟩,
      ⟨(some 10), some (9, true), .call 2 (.f 13) [(.c (.string ⟨#[42]⟩)), (.c (.string ⟨#[]⟩))]⟩,
      ⟨(some 11), none, .pick (.t 9) (.t 10) (.c (.bool false))⟩,
      ⟨(some 12), none, .mv (.t 11)⟩,
      ⟨(some 13), some (12, true), .mv (.t 1)⟩,
      ⟨(some 14), some (12, true), .build [(.str ⟨#[]⟩), (.int .i64 0), (.str ⟨#[]⟩)] [(0, 1, (.c (.string ⟨#[97]⟩))), (1, 1, (.c (.int .i64 3))), (2, 1, (.c (.string ⟨#[97, 98]⟩)))]⟩,
      ⟨(some 15), some (12, true), .build [(.str ⟨#[]⟩), (.int .i64 0), (.str ⟨#[]⟩)] [(0, 1, (.c (.string ⟨#[98]⟩))), (1, 1, (.c (.int .i64 1)))]⟩,
      ⟨(some 16), some (12, true), .bslice 2 3 [(.str ⟨#[]⟩), (.int .i64 0), (.str ⟨#[]⟩)] [(0, (.t 14)), (1, (.t 15))]⟩,
      ⟨(some 17), some (12, true), .call 2 (.f 15) [(.t 13), (.t 16)]⟩,
      ⟨(some 18), none, .pick (.t 12) (.t 17) (.c (.bool false))⟩,
      ⟨(some 19), none, .mv (.t 18)⟩,
      ⟨(some 20), some (19, true), .build [(.str ⟨#[]⟩), (.int .i64 0), (.str ⟨#[]⟩)] [(1, 1, (.c (.int .i64 9)))]⟩,
      ⟨(some 21), some (19, true), .call 2 (.f 11) [(.t 20), (.c (.string ⟨#[]⟩))]⟩,
      ⟨(some 22), some (19, true), .un .not (.t 21)⟩,
      ⟨(some 23), none, .pick (.t 19) (.t 22) (.c (.bool false))⟩,
      ⟨(some 24), none, .mv (.t 23)⟩,
      ⟨(some 25), some (24, true), .build [(.str ⟨#[]⟩), (.int .i64 0), (.str ⟨#[]⟩)] [(0, 1, (.c (.string ⟨#[97]⟩))), (1, 1, (.c (.int .i64 2)))]⟩,
      ⟨(some 26), some (24, true), .call 2 (.f 9) [(.t 25)]⟩,
      ⟨(some 27), none, .pick (.t 24) (.t 26) (.c (.bool false))⟩,
      ⟨(some 0), none, .mv (.t 27)⟩] [0])
  .ret))),
  [.t 0]⟩

/- spillway/pattern.Is -/
def an9 : Ann := [[1], [2], [2], [2]]
def fn9 : Vs.Fn := ⟨1,
  (.seq (.rg [⟨(some 1), none, .box 3 (.t 0)⟩,
      ⟨(some 2), none, .mv (.c (.bool false))⟩] [1])
  (.seq (.rg [⟨(some 3), none, .fad 0 (.t 1)⟩,
      ⟨(some 4), none, .load false 1 (.t 3) false⟩,
      ⟨(some 5), none, .call 2 (.f 17) [(.t 4)]⟩,
      ⟨(some 6), none, .mv (.t 5)⟩,
      ⟨(some 7), some (6, true), .fad 1 (.t 1)⟩,
      ⟨(some 8), some (6, true), .load false 1 (.t 7) false⟩,
      ⟨(some 9), some (6, true), .bin .geq (.t 8) (.c (.int .i64 1))⟩,
      ⟨(some 10), none, .pick (.t 6) (.t 9) (.c (.bool false))⟩,
      ⟨(some 11), none, .mv (.t 10)⟩,
      ⟨(some 12), some (11, true), .fad 1 (.t 1)⟩,
      ⟨(some 13), some (11, true), .load false 1 (.t 12) false⟩,
      ⟨(some 14), some (11, true), .bin .leq (.t 13) (.c (.int .i64 4))⟩,
      ⟨(some 15), none, .pick (.t 11) (.t 14) (.c (.bool false))⟩,
      ⟨(some 16), none, .mv (.t 15)⟩,
      ⟨(some 17), some (16, true), .fad 2 (.t 1)⟩,
      ⟨(some 18), some (16, true), .load false 1 (.t 17) false⟩,
      ⟨(some 19), some (16, true), .call 2 (.f 18) [(.t 18)]⟩,
      ⟨(some 20), none, .pick (.t 16) (.t 19) (.c (.bool false))⟩,
      ⟨(some 2), none, .mv (.t 20)⟩] [2])
  .ret)),
  [.t 2]⟩

/- spillway/spillwayref3.IsMatcher -/
def an10 : Ann := [[1], [2], [2], [2]]
def fn10 : Vs.Fn := ⟨1,
  (.seq (.rg [⟨(some 1), none, .box 3 (.t 0)⟩,
      ⟨(some 2), none, .mv (.c (.bool false))⟩] [1])
  (.seq (.rg [⟨(some 3), none, .fad 0 (.t 1)⟩,
      ⟨(some 4), none, .load false 1 (.t 3) false⟩,
      ⟨(some 5), none, .call 2 (.f 19) [(.t 4)]⟩,
      ⟨(some 6), none, .mv (.t 5)⟩,
      ⟨(some 7), some (6, true), .fad 1 (.t 1)⟩,
      ⟨(some 8), some (6, true), .load false 1 (.t 7) false⟩,
      ⟨(some 9), some (6, true), .bin .geq (.t 8) (.c (.int .i64 1))⟩,
      ⟨(some 10), none, .pick (.t 6) (.t 9) (.c (.bool false))⟩,
      ⟨(some 11), none, .mv (.t 10)⟩,
      ⟨(some 12), some (11, true), .fad 1 (.t 1)⟩,
      ⟨(some 13), some (11, true), .load false 1 (.t 12) false⟩,
      ⟨(some 14), some (11, true), .bin .leq (.t 13) (.c (.int .i64 4))⟩,
      ⟨(some 15), none, .pick (.t 11) (.t 14) (.c (.bool false))⟩,
      ⟨(some 16), none, .mv (.t 15)⟩,
      ⟨(some 17), some (16, true), .fad 2 (.t 1)⟩,
      ⟨(some 18), some (16, true), .load false 1 (.t 17) false⟩,
      ⟨(some 19), some (16, true), .call 2 (.f 20) [(.t 18)]⟩,
      ⟨(some 20), none, .pick (.t 16) (.t 19) (.c (.bool false))⟩,
      ⟨(some 2), none, .mv (.t 20)⟩] [2])
  .ret)),
  [.t 2]⟩

/- spillway/pattern.One -/
def an11 : Ann := [[1, 2], [1, 2, 6], [1, 2, 6, 7], [4], [1, 2, 6, 13], [4], [1, 2, 6, 19], [2], [4], [1, 2, 25], [2], [4], [4]]
def fn11 : Vs.Fn := ⟨2,
  (.seq (.rg [⟨(some 2), none, .box 3 (.t 0)⟩,
      ⟨(some 4), none, .mv (.c (.bool false))⟩] [1, 2])
  (.seq (.seq (.rg [⟨(some 5), none, .fad 1 (.t 2)⟩,
      ⟨(some 6), none, .load false 1 (.t 5) false⟩] [1, 2, 6])
  (.block 0
    (.seq (.rg [⟨(some 8), none, .bin .eql (.t 6) (.c (.int .i64 1))⟩,
        ⟨(some 7), none, .mv (.t 8)⟩] [1, 2, 6, 7])
    (.cond (.t 7)
      (.seq (.rg [⟨(some 9), none, .mv (.t 1)⟩,
          ⟨(some 10), none, .fad 2 (.t 2)⟩,
          ⟨(some 11), none, .load false 1 (.t 10) false⟩,
          ⟨(some 12), none, .bin .eql (.t 9) (.t 11)⟩,
          ⟨(some 4), none, .mv (.t 12)⟩] [4])
      .ret)
      (.seq (.rg [⟨(some 14), none, .bin .eql (.t 6) (.c (.int .i64 2))⟩,
          ⟨(some 13), none, .mv (.t 14)⟩] [1, 2, 6, 13])
      (.cond (.t 13)
        (.seq (.rg [⟨(some 15), none, .mv (.t 1)⟩,
            ⟨(some 16), none, .fad 2 (.t 2)⟩,
            ⟨(some 17), none, .load false 1 (.t 16) false⟩,
            ⟨(some 18), none, .bin .neq (.t 15) (.t 17)⟩,
            ⟨(some 4), none, .mv (.t 18)⟩] [4])
        .ret)
        (.seq (.rg [⟨(some 20), none, .bin .eql (.t 6) (.c (.int .i64 3))⟩,
            ⟨(some 19), none, .mv (.t 20)⟩] [1, 2, 6, 19])
        (.cond (.t 19)
          (.seq (.rg [⟨(some 21), none, .mv (.t 1)⟩,
              ⟨(some 22), none, .fad 2 (.t 2)⟩,
              ⟨(some 23), none, .load false 1 (.t 22) false⟩,
              ⟨(some 24), none, .call 2 (.f 21) [(.t 21), (.t 23)]⟩,
              ⟨(some 4), none, .mv (.t 24)⟩] [4])
          .ret)
          (.seq (.rg [⟨(some 26), none, .bin .eql (.t 6) (.c (.int .i64 4))⟩,
              ⟨(some 25), none, .mv (.t 26)⟩] [1, 2, 25])
          (.cond (.t 25)
            (.seq (.rg [⟨(some 27), none, .fad 2 (.t 2)⟩,
                ⟨(some 28), none, .load false 1 (.t 27) false⟩,
                ⟨(some 29), none, .mv (.t 1)⟩,
                ⟨(some 30), none, .call 2 (.f 13) [(.t 28), (.t 29)]⟩,
                ⟨(some 4), none, .mv (.t 30)⟩] [4])
            .ret)
            .skip))))))))))
  (.seq (.rg [⟨(some 4), none, .mv (.c (.bool false))⟩] [4])
  .ret))),
  [.t 4]⟩

/- spillway/spillwayref3.One -/
def an12 : Ann := [[1, 2], [1, 2, 6], [1, 2, 6, 7], [4], [1, 2, 6, 13], [4], [1, 2, 6, 19], [4], [1, 2, 37], [2], [4], [4]]
def fn12 : Vs.Fn := ⟨2,
  (.seq (.rg [⟨(some 2), none, .box 3 (.t 0)⟩,
      ⟨(some 4), none, .mv (.c (.bool false))⟩] [1, 2])
  (.seq (.seq (.rg [⟨(some 5), none, .fad 1 (.t 2)⟩,
      ⟨(some 6), none, .load false 1 (.t 5) false⟩] [1, 2, 6])
  (.block 0
    (.seq (.rg [⟨(some 8), none, .bin .eql (.t 6) (.c (.int .i64 1))⟩,
        ⟨(some 7), none, .mv (.t 8)⟩] [1, 2, 6, 7])
    (.cond (.t 7)
      (.seq (.rg [⟨(some 9), none, .mv (.t 1)⟩,
          ⟨(some 10), none, .fad 2 (.t 2)⟩,
          ⟨(some 11), none, .load false 1 (.t 10) false⟩,
          ⟨(some 12), none, .bin .eql (.t 9) (.t 11)⟩,
          ⟨(some 4), none, .mv (.t 12)⟩] [4])
      .ret)
      (.seq (.rg [⟨(some 14), none, .bin .eql (.t 6) (.c (.int .i64 2))⟩,
          ⟨(some 13), none, .mv (.t 14)⟩] [1, 2, 6, 13])
      (.cond (.t 13)
        (.seq (.rg [⟨(some 15), none, .mv (.t 1)⟩,
            ⟨(some 16), none, .fad 2 (.t 2)⟩,
            ⟨(some 17), none, .load false 1 (.t 16) false⟩,
            ⟨(some 18), none, .bin .neq (.t 15) (.t 17)⟩,
            ⟨(some 4), none, .mv (.t 18)⟩] [4])
        .ret)
        (.seq (.rg [⟨(some 20), none, .bin .eql (.t 6) (.c (.int .i64 3))⟩,
            ⟨(some 19), none, .mv (.t 20)⟩] [1, 2, 6, 19])
        (.cond (.t 19)
          (.seq (.rg [⟨(some 21), none, .mv (.t 1)⟩,
              ⟨(some 22), none, .len true (.t 21)⟩,
              ⟨(some 23), none, .fad 2 (.t 2)⟩,
              ⟨(some 24), none, .load false 1 (.t 23) false⟩,
              ⟨(some 25), none, .len true (.t 24)⟩,
              ⟨(some 26), none, .bin .geq (.t 22) (.t 25)⟩,
              ⟨(some 27), none, .mv (.t 26)⟩,
              ⟨(some 28), some (27, true), .mv (.t 1)⟩,
              ⟨(some 29), some (27, true), .fad 2 (.t 2)⟩,
              ⟨(some 30), some (27, true), .load false 1 (.t 29) false⟩,
              ⟨(some 31), some (27, true), .len true (.t 30)⟩,
              ⟨(some 32), some (27, true), .slst (.t 28) none (some (.t 31))⟩,
              ⟨(some 33), some (27, true), .fad 2 (.t 2)⟩,
              ⟨(some 34), some (27, true), .load false 1 (.t 33) false⟩,
              ⟨(some 35), some (27, true), .bin .eql (.t 32) (.t 34)⟩,
              ⟨(some 36), none, .pick (.t 27) (.t 35) (.c (.bool false))⟩,
              ⟨(some 4), none, .mv (.t 36)⟩] [4])
          .ret)
          (.seq (.rg [⟨(some 38), none, .bin .eql (.t 6) (.c (.int .i64 4))⟩,
              ⟨(some 37), none, .mv (.t 38)⟩] [1, 2, 37])
          (.cond (.t 37)
            (.seq (.rg [⟨(some 39), none, .fad 2 (.t 2)⟩,
                ⟨(some 40), none, .load false 1 (.t 39) false⟩,
                ⟨(some 41), none, .mv (.t 1)⟩,
                ⟨(some 42), none, .call 2 (.f 14) [(.t 40), (.t 41)]⟩,
                ⟨(some 4), none, .mv (.t 42)⟩] [4])
            .ret)
            .skip))))))))))
  (.seq (.rg [⟨(some 4), none, .mv (.c (.bool false))⟩] [4])
  .ret))),
  [.t 4]⟩

/- spillway/pattern.Glob -/
def an13 : Ann := [[0, 1], [0, 1, 5, 6, 7, 8], [0, 1, 5, 6, 7, 8], [0, 1, 5, 6, 7, 8, 12], [0, 1, 5, 6, 7, 8, 13], [0, 1, 5, 6, 7, 8], [0, 1, 5, 6, 7, 8], [0, 1, 5, 6, 7, 8, 28], [0, 1, 5, 6, 7, 8], [0, 1, 7, 8, 52], [0, 1, 7, 8], [0, 1, 5, 6, 7, 8], [4], [2], [4]]
def fn13B0 : Cd :=
  (.seq (.seq (.rg [⟨(some 9), none, .mv (.t 6)⟩,
      ⟨(some 10), none, .mv (.t 1)⟩,
      ⟨(some 11), none, .len true (.t 10)⟩,
      ⟨(some 12), none, .bin .lss (.t 9) (.t 11)⟩] [0, 1, 5, 6, 7, 8, 12])
  (.cond (.t 12)
    .skip
    (.exit 0)))
  (.block 1
    (.block 2
      (.seq (.rg [⟨(some 14), none, .mv (.t 5)⟩,
          ⟨(some 15), none, .mv (.t 0)⟩,
          ⟨(some 16), none, .len true (.t 15)⟩,
          ⟨(some 17), none, .bin .lss (.t 14) (.t 16)⟩,
          ⟨(some 18), none, .mv (.t 17)⟩,
          ⟨(some 19), some (18, true), .mv (.t 0)⟩,
          ⟨(some 20), some (18, true), .mv (.t 5)⟩,
          ⟨(some 21), some (18, true), .ist (.t 19) (.t 20)⟩,
          ⟨(some 22), some (18, true), .bin .eql (.t 21) (.c (.int .u8 42))⟩,
          ⟨(some 23), none, .pick (.t 18) (.t 22) (.c (.bool false))⟩,
          ⟨(some 13), none, .mv (.t 23)⟩] [0, 1, 5, 6, 7, 8, 13])
      (.cond (.t 13)
        (.seq (.rg [⟨(some 24), none, .mv (.t 5)⟩,
            ⟨(some 25), none, .mv (.t 6)⟩,
            ⟨(some 7), none, .mv (.t 24)⟩,
            ⟨(some 8), none, .mv (.t 25)⟩] [0, 1, 5, 6, 7, 8])
        (.rg [⟨(some 26), none, .mv (.t 5)⟩,
            ⟨(some 27), none, .bin .add (.t 26) (.c (.int .i64 1))⟩,
            ⟨(some 5), none, .mv (.t 27)⟩] [0, 1, 5, 6, 7, 8]))
        (.seq (.rg [⟨(some 29), none, .mv (.t 5)⟩,
            ⟨(some 30), none, .mv (.t 0)⟩,
            ⟨(some 31), none, .len true (.t 30)⟩,
            ⟨(some 32), none, .bin .lss (.t 29) (.t 31)⟩,
            ⟨(some 33), none, .mv (.t 32)⟩,
            ⟨(some 34), some (33, true), .mv (.t 0)⟩,
            ⟨(some 35), some (33, true), .mv (.t 5)⟩,
            ⟨(some 36), some (33, true), .ist (.t 34) (.t 35)⟩,
            ⟨(some 37), some (33, true), .bin .eql (.t 36) (.c (.int .u8 63))⟩,
            ⟨(some 38), some (33, true), .mv (.t 37)⟩,
            ⟨(some 39), some (38, false), .mv (.t 0)⟩,
            ⟨(some 40), some (38, false), .mv (.t 5)⟩,
            ⟨(some 41), some (38, false), .ist (.t 39) (.t 40)⟩,
            ⟨(some 42), some (38, false), .mv (.t 1)⟩,
            ⟨(some 43), some (38, false), .mv (.t 6)⟩,
            ⟨(some 44), some (38, false), .ist (.t 42) (.t 43)⟩,
            ⟨(some 45), some (38, false), .bin .eql (.t 41) (.t 44)⟩,
            ⟨(some 46), some (33, true), .pick (.t 38) (.c (.bool true)) (.t 45)⟩,
            ⟨(some 47), none, .pick (.t 33) (.t 46) (.c (.bool false))⟩,
            ⟨(some 28), none, .mv (.t 47)⟩] [0, 1, 5, 6, 7, 8, 28])
        (.cond (.t 28)
          (.rg [⟨(some 48), none, .mv (.t 5)⟩,
              ⟨(some 49), none, .bin .add (.t 48) (.c (.int .i64 1))⟩,
              ⟨(some 50), none, .mv (.t 6)⟩,
              ⟨(some 51), none, .bin .add (.t 50) (.c (.int .i64 1))⟩,
              ⟨(some 5), none, .mv (.t 49)⟩,
              ⟨(some 6), none, .mv (.t 51)⟩] [0, 1, 5, 6, 7, 8])
          (.seq (.rg [⟨(some 53), none, .mv (.t 7)⟩,
              ⟨(some 54), none, .bin .geq (.t 53) (.c (.int .i64 0))⟩,
              ⟨(some 52), none, .mv (.t 54)⟩] [0, 1, 7, 8, 52])
          (.cond (.t 52)
            (.seq (.rg [⟨(some 55), none, .mv (.t 8)⟩,
                ⟨(some 56), none, .bin .add (.t 55) (.c (.int .i64 1))⟩,
                ⟨(some 8), none, .mv (.t 56)⟩] [0, 1, 7, 8])
            (.rg [⟨(some 57), none, .mv (.t 7)⟩,
                ⟨(some 58), none, .bin .add (.t 57) (.c (.int .i64 1))⟩,
                ⟨(some 59), none, .mv (.t 8)⟩,
                ⟨(some 5), none, .mv (.t 58)⟩,
                ⟨(some 6), none, .mv (.t 59)⟩] [0, 1, 5, 6, 7, 8]))
            (.seq (.rg [⟨(some 4), none, .mv (.c (.bool false))⟩] [4])
            .ret))))))))))
def fn13L0 : Cd := .loop [0, 1, 5, 6, 7, 8] fn13B0
def fn13 : Vs.Fn := ⟨2,
  (.seq (.rg [⟨(some 4), none, .mv (.c (.bool false))⟩] [0, 1])
  (.seq (.rg [⟨(some 5), none, .mv (.c (.int .i64 0))⟩,
      ⟨(some 6), none, .mv (.c (.int .i64 0))⟩,
      ⟨(some 7), none, .mv (.c (.int .i64 (-1)))⟩,
      ⟨(some 8), none, .mv (.c (.int .i64 0))⟩] [0, 1, 5, 6, 7, 8])
  (.seq (.block 0
    fn13L0)
  (.seq (.rg [⟨(some 60), none, .mv (.t 0)⟩,
      ⟨(some 61), none, .mv (.t 5)⟩,
      ⟨(some 62), none, .slst (.t 60) (some (.t 61)) none⟩,
      ⟨(some 63), none, .call 2 (.f 22) [(.t 62), (.c (.string ⟨#[42]⟩))]⟩,
      ⟨(some 64), none, .bin .eql (.t 63) (.c (.string ⟨#[]⟩))⟩,
      ⟨(some 4), none, .mv (.t 64)⟩] [4])
  .ret)))),
  [.t 4]⟩

/- spillway/spillwayref3.Glob -/
def an14 : Ann := [[0, 1], [0, 1, 5], [0, 1, 5], [0, 1, 5, 6], [0, 1, 5, 6], [0, 1, 5, 6, 18], [0, 1, 5, 6, 7], [0, 1, 5, 6, 7, 8], [0, 1, 5, 6, 7, 8], [0, 1, 5, 6, 7, 8, 28], [0, 1, 5, 6, 7, 8, 31], [0, 1, 5, 6, 7, 8], [0, 1, 5, 6, 7, 8, 54], [0, 1, 5, 6, 7, 8], [0, 1, 5, 6, 7, 8], [0, 1, 5, 6], [0, 1, 5, 6], [4]]
def fn14B0 : Cd :=
  (.seq (.seq (.rg [⟨(some 25), none, .mv (.t 8)⟩,
      ⟨(some 26), none, .mv (.t 1)⟩,
      ⟨(some 27), none, .len true (.t 26)⟩,
      ⟨(some 28), none, .bin .leq (.t 25) (.t 27)⟩] [0, 1, 5, 6, 7, 8, 28])
  (.cond (.t 28)
    .skip
    (.exit 2)))
  (.seq (.block 3
    (.block 4
      (.seq (.rg [⟨(some 32), none, .mv (.t 0)⟩,
          ⟨(some 33), none, .mv (.t 6)⟩,
          ⟨(some 34), none, .ist (.t 32) (.t 33)⟩,
          ⟨(some 35), none, .bin .eql (.t 34) (.c (.int .u8 42))⟩,
          ⟨(some 31), none, .mv (.t 35)⟩] [0, 1, 5, 6, 7, 8, 31])
      (.cond (.t 31)
        (.rg [⟨(some 36), none, .mv (.t 7)⟩,
            ⟨(some 37), none, .mv (.t 8)⟩,
            ⟨(some 38), none, .mv (.t 5)⟩,
            ⟨(some 39), none, .mv (.t 8)⟩,
            ⟨(some 40), none, .iad 1 (.t 38) (.t 39)⟩,
            ⟨(some 41), none, .load false 1 (.t 40) false⟩,
            ⟨(some 42), none, .mv (.t 41)⟩,
            ⟨(some 43), some (42, false), .mv (.t 8)⟩,
            ⟨(some 44), some (42, false), .bin .gtr (.t 43) (.c (.int .i64 0))⟩,
            ⟨(some 45), some (42, false), .mv (.t 44)⟩,
            ⟨(some 46), some (45, true), .mv (.t 7)⟩,
            ⟨(some 47), some (45, true), .mv (.t 8)⟩,
            ⟨(some 48), some (45, true), .bin .sub (.t 47) (.c (.int .i64 1))⟩,
            ⟨(some 49), some (45, true), .iad 1 (.t 46) (.t 48)⟩,
            ⟨(some 50), some (45, true), .load false 1 (.t 49) false⟩,
            ⟨(some 51), some (42, false), .pick (.t 45) (.t 50) (.c (.bool false))⟩,
            ⟨(some 52), none, .pick (.t 42) (.c (.bool true)) (.t 51)⟩,
            ⟨(some 53), none, .iad 1 (.t 36) (.t 37)⟩,
            ⟨none, none, .store 1 (.t 53) (.t 52)⟩] [0, 1, 5, 6, 7, 8])
        (.seq (.rg [⟨(some 55), none, .mv (.t 8)⟩,
            ⟨(some 56), none, .bin .gtr (.t 55) (.c (.int .i64 0))⟩,
            ⟨(some 57), none, .mv (.t 56)⟩,
            ⟨(some 58), some (57, true), .mv (.t 5)⟩,
            ⟨(some 59), some (57, true), .mv (.t 8)⟩,
            ⟨(some 60), some (57, true), .bin .sub (.t 59) (.c (.int .i64 1))⟩,
            ⟨(some 61), some (57, true), .iad 1 (.t 58) (.t 60)⟩,
            ⟨(some 62), some (57, true), .load false 1 (.t 61) false⟩,
            ⟨(some 63), none, .pick (.t 57) (.t 62) (.c (.bool false))⟩,
            ⟨(some 54), none, .mv (.t 63)⟩] [0, 1, 5, 6, 7, 8, 54])
        (.cond (.t 54)
          (.rg [⟨(some 64), none, .mv (.t 7)⟩,
              ⟨(some 65), none, .mv (.t 8)⟩,
              ⟨(some 66), none, .mv (.t 0)⟩,
              ⟨(some 67), none, .mv (.t 6)⟩,
              ⟨(some 68), none, .ist (.t 66) (.t 67)⟩,
              ⟨(some 69), none, .bin .eql (.t 68) (.c (.int .u8 63))⟩,
              ⟨(some 70), none, .mv (.t 69)⟩,
              ⟨(some 71), some (70, false), .mv (.t 0)⟩,
              ⟨(some 72), some (70, false), .mv (.t 6)⟩,
              ⟨(some 73), some (70, false), .ist (.t 71) (.t 72)⟩,
              ⟨(some 74), some (70, false), .mv (.t 1)⟩,
              ⟨(some 75), some (70, false), .mv (.t 8)⟩,
              ⟨(some 76), some (70, false), .bin .sub (.t 75) (.c (.int .i64 1))⟩,
              ⟨(some 77), some (70, false), .ist (.t 74) (.t 76)⟩,
              ⟨(some 78), some (70, false), .bin .eql (.t 73) (.t 77)⟩,
              ⟨(some 79), none, .pick (.t 70) (.c (.bool true)) (.t 78)⟩,
              ⟨(some 80), none, .iad 1 (.t 64) (.t 65)⟩,
              ⟨none, none, .store 1 (.t 80) (.t 79)⟩] [0, 1, 5, 6, 7, 8])
          .skip))))))
  (.rg [⟨(some 29), none, .mv (.t 8)⟩,
      ⟨(some 30), none, .bin .add (.t 29) (.c (.int .i64 1))⟩,
      ⟨(some 8), none, .mv (.t 30)⟩] [0, 1, 5, 6, 7, 8])))
def fn14L0 : Cd := .loop [0, 1, 5, 6, 7, 8] fn14B0
def fn14B1 : Cd :=
  (.seq (.seq (.rg [⟨(some 15), none, .mv (.t 6)⟩,
      ⟨(some 16), none, .mv (.t 0)⟩,
      ⟨(some 17), none, .len true (.t 16)⟩,
      ⟨(some 18), none, .bin .lss (.t 15) (.t 17)⟩] [0, 1, 5, 6, 18])
  (.cond (.t 18)
    .skip
    (.exit 0)))
  (.seq (.block 1
    (.seq (.rg [⟨(some 21), none, .mv (.t 1)⟩,
        ⟨(some 22), none, .len true (.t 21)⟩,
        ⟨(some 23), none, .bin .add (.t 22) (.c (.int .i64 1))⟩,
        ⟨(some 24), none, .mksl 1 1 [(.bool false)] (.t 23) (.t 23)⟩,
        ⟨(some 7), none, .mv (.t 24)⟩] [0, 1, 5, 6, 7])
    (.seq (.seq (.rg [⟨(some 8), none, .mv (.c (.int .i64 0))⟩] [0, 1, 5, 6, 7, 8])
    (.block 2
      fn14L0))
    (.rg [⟨(some 81), none, .mv (.t 7)⟩,
        ⟨(some 5), none, .mv (.t 81)⟩] [0, 1, 5, 6]))))
  (.rg [⟨(some 19), none, .mv (.t 6)⟩,
      ⟨(some 20), none, .bin .add (.t 19) (.c (.int .i64 1))⟩,
      ⟨(some 6), none, .mv (.t 20)⟩] [0, 1, 5, 6])))
def fn14L1 : Cd := .loop [0, 1, 5, 6] fn14B1
def fn14 : Vs.Fn := ⟨2,
  (.seq (.rg [⟨(some 4), none, .mv (.c (.bool false))⟩] [0, 1])
  (.seq (.rg [⟨(some 9), none, .mv (.t 1)⟩,
      ⟨(some 10), none, .len true (.t 9)⟩,
      ⟨(some 11), none, .bin .add (.t 10) (.c (.int .i64 1))⟩,
      ⟨(some 12), none, .mksl 1 1 [(.bool false)] (.t 11) (.t 11)⟩,
      ⟨(some 5), none, .mv (.t 12)⟩] [0, 1, 5])
  (.seq (.rg [⟨(some 13), none, .mv (.t 5)⟩,
      ⟨(some 14), none, .iad 1 (.t 13) (.c (.int .i64 0))⟩,
      ⟨none, none, .store 1 (.t 14) (.c (.bool true))⟩] [0, 1, 5])
  (.seq (.seq (.rg [⟨(some 6), none, .mv (.c (.int .i64 0))⟩] [0, 1, 5, 6])
  (.block 0
    fn14L1))
  (.seq (.rg [⟨(some 82), none, .mv (.t 5)⟩,
      ⟨(some 83), none, .mv (.t 1)⟩,
      ⟨(some 84), none, .len true (.t 83)⟩,
      ⟨(some 85), none, .iad 1 (.t 82) (.t 84)⟩,
      ⟨(some 86), none, .load false 1 (.t 85) false⟩,
      ⟨(some 4), none, .mv (.t 86)⟩] [4])
  .ret))))),
  [.t 4]⟩

/- spillway/pattern.All -/
def an15 : Ann := [[0, 1], [0, 7, 8, 9], [0, 7, 8, 9], [0, 7, 8, 9, 10], [0, 6, 7, 8, 9], [2], [2], [0, 7, 8, 9, 19], [4], [0, 7, 8, 9], [4]]
def fn15B0 : Cd :=
  (.seq (.rg [⟨(some 10), none, .bin .lss (.t 9) (.t 8)⟩] [0, 7, 8, 9, 10])
  (.seq (.cond (.t 10)
    .skip
    (.exit 0))
  (.seq (.block 1
    (.seq (.rg [⟨(some 11), none, .iad 3 (.t 7) (.t 9)⟩,
        ⟨(some 12), none, .load true 3 (.t 11) false⟩,
        ⟨(some 6), none, .alloc [(.str ⟨#[]⟩), (.int .i64 0), (.str ⟨#[]⟩)]⟩,
        ⟨none, none, .store 3 (.t 6) (.t 12)⟩] [0, 6, 7, 8, 9])
    (.seq (.rg [⟨(some 13), none, .load true 3 (.t 6) false⟩,
        ⟨(some 14), none, .mv (.t 0)⟩,
        ⟨(some 15), none, .fad 0 (.t 6)⟩,
        ⟨(some 16), none, .load false 1 (.t 15) false⟩,
        ⟨(some 17), none, .call 2 (.f 23) [(.t 14), (.t 16)]⟩,
        ⟨(some 18), none, .call 2 (.f 11) [(.t 13), (.t 17)]⟩,
        ⟨(some 19), none, .un .not (.t 18)⟩] [0, 7, 8, 9, 19])
    (.cond (.t 19)
      (.seq (.rg [⟨(some 4), none, .mv (.c (.bool false))⟩] [4])
      .ret)
      .skip))))
  (.rg [⟨(some 20), none, .bin .add (.t 9) (.c (.int .i64 1))⟩,
      ⟨(some 9), none, .mv (.t 20)⟩] [0, 7, 8, 9]))))
def fn15L0 : Cd := .loop [0, 7, 8, 9] fn15B0
def fn15 : Vs.Fn := ⟨2,
  (.seq (.rg [⟨(some 4), none, .mv (.c (.bool false))⟩] [0, 1])
  (.seq (.seq (.rg [⟨(some 7), none, .mv (.t 1)⟩,
      ⟨(some 8), none, .len false (.t 7)⟩,
      ⟨(some 9), none, .mv (.c (.int .i64 0))⟩] [0, 7, 8, 9])
  (.block 0
    fn15L0))
  (.seq (.rg [⟨(some 4), none, .mv (.c (.bool true))⟩] [4])
  .ret))),
  [.t 4]⟩

/- spillway/spillwayref3.All -/
def an16 : Ann := [[0, 1], [0, 1, 5], [0, 1, 5], [0, 1, 5, 9], [2], [2], [0, 1, 5, 24], [4], [0, 1, 5], [4]]
def fn16B0 : Cd :=
  (.seq (.seq (.rg [⟨(some 6), none, .mv (.t 5)⟩,
      ⟨(some 7), none, .mv (.t 1)⟩,
      ⟨(some 8), none, .len false (.t 7)⟩,
      ⟨(some 9), none, .bin .lss (.t 6) (.t 8)⟩] [0, 1, 5, 9])
  (.cond (.t 9)
    .skip
    (.exit 0)))
  (.seq (.block 1
    (.seq (.rg [⟨(some 12), none, .mv (.t 1)⟩,
        ⟨(some 13), none, .mv (.t 5)⟩,
        ⟨(some 14), none, .iad 3 (.t 12) (.t 13)⟩,
        ⟨(some 15), none, .load true 3 (.t 14) false⟩,
        ⟨(some 16), none, .mv (.t 0)⟩,
        ⟨(some 17), none, .mv (.t 1)⟩,
        ⟨(some 18), none, .mv (.t 5)⟩,
        ⟨(some 19), none, .iad 3 (.t 17) (.t 18)⟩,
        ⟨(some 20), none, .fad 0 (.t 19)⟩,
        ⟨(some 21), none, .load false 1 (.t 20) false⟩,
        ⟨(some 22), none, .call 2 (.f 24) [(.t 16), (.t 21)]⟩,
        ⟨(some 23), none, .call 2 (.f 12) [(.t 15), (.t 22)]⟩,
        ⟨(some 24), none, .un .not (.t 23)⟩] [0, 1, 5, 24])
    (.cond (.t 24)
      (.seq (.rg [⟨(some 4), none, .mv (.c (.bool false))⟩] [4])
      .ret)
      .skip)))
  (.rg [⟨(some 10), none, .mv (.t 5)⟩,
      ⟨(some 11), none, .bin .add (.t 10) (.c (.int .i64 1))⟩,
      ⟨(some 5), none, .mv (.t 11)⟩] [0, 1, 5])))
def fn16L0 : Cd := .loop [0, 1, 5] fn16B0
def fn16 : Vs.Fn := ⟨2,
  (.seq (.rg [⟨(some 4), none, .mv (.c (.bool false))⟩] [0, 1])
  (.seq (.seq (.rg [⟨(some 5), none, .mv (.c (.int .i64 0))⟩] [0, 1, 5])
  (.block 0
    fn16L0))
  (.seq (.rg [⟨(some 4), none, .mv (.c (.bool true))⟩] [4])
  .ret))),
  [.t 4]⟩

/- spillway/label.Name -/
def an17 : Ann := [[0], [0, 6, 7], [0, 6, 7], [0, 6, 7, 8], [0, 3, 6, 7], [0, 3, 4, 6, 7], [0, 6, 7, 43], [2], [0, 6, 7], [2]]
def fn17B0 : Cd :=
  (.seq (.rg [⟨(some 8), none, .bin .lss (.t 7) (.t 6)⟩] [0, 6, 7, 8])
  (.seq (.cond (.t 8)
    .skip
    (.exit 0))
  (.seq (.block 1
    (.seq (.rg [⟨(some 9), none, .mv (.t 7)⟩,
        ⟨(some 3), none, .mv (.t 9)⟩] [0, 3, 6, 7])
    (.seq (.rg [⟨(some 10), none, .mv (.t 0)⟩,
        ⟨(some 11), none, .mv (.t 3)⟩,
        ⟨(some 12), none, .ist (.t 10) (.t 11)⟩,
        ⟨(some 4), none, .mv (.t 12)⟩] [0, 3, 4, 6, 7])
    (.seq (.rg [⟨(some 13), none, .mv (.t 4)⟩,
        ⟨(some 14), none, .bin .geq (.t 13) (.c (.int .u8 97))⟩,
        ⟨(some 15), none, .mv (.t 14)⟩,
        ⟨(some 16), some (15, true), .mv (.t 4)⟩,
        ⟨(some 17), some (15, true), .bin .leq (.t 16) (.c (.int .u8 122))⟩,
        ⟨(some 18), none, .pick (.t 15) (.t 17) (.c (.bool false))⟩,
        ⟨(some 19), none, .mv (.t 18)⟩,
        ⟨(some 20), some (19, false), .mv (.t 4)⟩,
        ⟨(some 21), some (19, false), .bin .geq (.t 20) (.c (.int .u8 65))⟩,
        ⟨(some 22), some (19, false), .mv (.t 21)⟩,
        ⟨(some 23), some (22, true), .mv (.t 4)⟩,
        ⟨(some 24), some (22, true), .bin .leq (.t 23) (.c (.int .u8 90))⟩,
        ⟨(some 25), some (19, false), .pick (.t 22) (.t 24) (.c (.bool false))⟩,
        ⟨(some 26), none, .pick (.t 19) (.c (.bool true)) (.t 25)⟩,
        ⟨(some 27), none, .mv (.t 26)⟩,
        ⟨(some 28), some (27, false), .mv (.t 4)⟩,
        ⟨(some 29), some (27, false), .bin .eql (.t 28) (.c (.int .u8 95))⟩,
        ⟨(some 30), none, .pick (.t 27) (.c (.bool true)) (.t 29)⟩,
        ⟨(some 31), none, .mv (.t 30)⟩,
        ⟨(some 32), some (31, false), .mv (.t 4)⟩,
        ⟨(some 33), some (31, false), .bin .geq (.t 32) (.c (.int .u8 48))⟩,
        ⟨(some 34), some (31, false), .mv (.t 33)⟩,
        ⟨(some 35), some (34, true), .mv (.t 4)⟩,
        ⟨(some 36), some (34, true), .bin .leq (.t 35) (.c (.int .u8 57))⟩,
        ⟨(some 37), some (31, false), .pick (.t 34) (.t 36) (.c (.bool false))⟩,
        ⟨(some 38), some (31, false), .mv (.t 37)⟩,
        ⟨(some 39), some (38, true), .mv (.t 3)⟩,
        ⟨(some 40), some (38, true), .bin .gtr (.t 39) (.c (.int .i64 0))⟩,
        ⟨(some 41), some (31, false), .pick (.t 38) (.t 40) (.c (.bool false))⟩,
        ⟨(some 42), none, .pick (.t 31) (.c (.bool true)) (.t 41)⟩,
        ⟨(some 43), none, .un .not (.t 42)⟩] [0, 6, 7, 43])
    (.cond (.t 43)
      (.seq (.rg [⟨(some 2), none, .mv (.c (.bool false))⟩] [2])
      .ret)
      .skip)))))
  (.rg [⟨(some 44), none, .bin .add (.t 7) (.c (.int .i64 1))⟩,
      ⟨(some 7), none, .mv (.t 44)⟩] [0, 6, 7]))))
def fn17L0 : Cd := .loop [0, 6, 7] fn17B0
def fn17 : Vs.Fn := ⟨1,
  (.seq (.rg [⟨(some 2), none, .mv (.c (.bool false))⟩] [0])
  (.seq (.seq (.rg [⟨(some 5), none, .mv (.t 0)⟩,
      ⟨(some 6), none, .len true (.t 5)⟩,
      ⟨(some 7), none, .mv (.c (.int .i64 0))⟩] [0, 6, 7])
  (.block 0
    fn17L0))
  (.seq (.rg [⟨(some 45), none, .mv (.t 0)⟩,
      ⟨(some 46), none, .len true (.t 45)⟩,
      ⟨(some 47), none, .bin .geq (.t 46) (.c (.int .i64 1))⟩,
      ⟨(some 48), none, .mv (.t 47)⟩,
      ⟨(some 49), some (48, true), .mv (.t 0)⟩,
      ⟨(some 50), some (48, true), .len true (.t 49)⟩,
      ⟨(some 51), some (48, true), .bin .leq (.t 50) (.c (.int .i64 20))⟩,
      ⟨(some 52), none, .pick (.t 48) (.t 51) (.c (.bool false))⟩,
      ⟨(some 2), none, .mv (.t 52)⟩] [2])
  .ret))),
  [.t 2]⟩

/- spillway/pattern.Text -/
def an18 : Ann := [[0], [2], [2]]
def fn18 : Vs.Fn := ⟨1,
  (.seq (.rg [⟨(some 2), none, .mv (.c (.bool false))⟩] [0])
  (.seq (.rg [⟨(some 3), none, .mv (.t 0)⟩,
      ⟨(some 4), none, .len true (.t 3)⟩,
      ⟨(some 5), none, .bin .leq (.t 4) (.c (.int .i64 30))⟩,
      ⟨(some 6), none, .mv (.t 5)⟩,
      ⟨(some 7), some (6, true), .mv (.t 0)⟩,
      ⟨(some 8), some (6, true), .call 2 (.f 25) [(.t 7), (.c (.int .u8 10))]⟩,
      ⟨(some 9), some (6, true), .bin .lss (.t 8) (.c (.int .i64 0))⟩,
      ⟨(some 10), none, .pick (.t 6) (.t 9) (.c (.bool false))⟩,
      ⟨(some 2), none, .mv (.t 10)⟩] [2])
  .ret)),
  [.t 2]⟩

/- spillway/spillwayref3.Name -/
def an19 : Ann := [[0], [0, 3], [0, 3], [0, 3, 8], [0, 3, 4], [0, 3, 44], [2], [0, 3], [2]]
def fn19B0 : Cd :=
  (.seq (.seq (.rg [⟨(some 5), none, .mv (.t 3)⟩,
      ⟨(some 6), none, .mv (.t 0)⟩,
      ⟨(some 7), none, .len true (.t 6)⟩,
      ⟨(some 8), none, .bin .lss (.t 5) (.t 7)⟩] [0, 3, 8])
  (.cond (.t 8)
    .skip
    (.exit 0)))
  (.seq (.block 1
    (.seq (.rg [⟨(some 11), none, .mv (.t 0)⟩,
        ⟨(some 12), none, .mv (.t 3)⟩,
        ⟨(some 13), none, .ist (.t 11) (.t 12)⟩,
        ⟨(some 4), none, .mv (.t 13)⟩] [0, 3, 4])
    (.seq (.rg [⟨(some 14), none, .mv (.t 4)⟩,
        ⟨(some 15), none, .bin .geq (.t 14) (.c (.int .u8 97))⟩,
        ⟨(some 16), none, .mv (.t 15)⟩,
        ⟨(some 17), some (16, true), .mv (.t 4)⟩,
        ⟨(some 18), some (16, true), .bin .leq (.t 17) (.c (.int .u8 122))⟩,
        ⟨(some 19), none, .pick (.t 16) (.t 18) (.c (.bool false))⟩,
        ⟨(some 20), none, .mv (.t 19)⟩,
        ⟨(some 21), some (20, false), .mv (.t 4)⟩,
        ⟨(some 22), some (20, false), .bin .geq (.t 21) (.c (.int .u8 65))⟩,
        ⟨(some 23), some (20, false), .mv (.t 22)⟩,
        ⟨(some 24), some (23, true), .mv (.t 4)⟩,
        ⟨(some 25), some (23, true), .bin .leq (.t 24) (.c (.int .u8 90))⟩,
        ⟨(some 26), some (20, false), .pick (.t 23) (.t 25) (.c (.bool false))⟩,
        ⟨(some 27), none, .pick (.t 20) (.c (.bool true)) (.t 26)⟩,
        ⟨(some 28), none, .mv (.t 27)⟩,
        ⟨(some 29), some (28, false), .mv (.t 4)⟩,
        ⟨(some 30), some (28, false), .bin .eql (.t 29) (.c (.int .u8 95))⟩,
        ⟨(some 31), none, .pick (.t 28) (.c (.bool true)) (.t 30)⟩,
        ⟨(some 32), none, .mv (.t 31)⟩,
        ⟨(some 33), some (32, false), .mv (.t 3)⟩,
        ⟨(some 34), some (32, false), .bin .gtr (.t 33) (.c (.int .i64 0))⟩,
        ⟨(some 35), some (32, false), .mv (.t 34)⟩,
        ⟨(some 36), some (35, true), .mv (.t 4)⟩,
        ⟨(some 37), some (35, true), .bin .geq (.t 36) (.c (.int .u8 48))⟩,
        ⟨(some 38), some (32, false), .pick (.t 35) (.t 37) (.c (.bool false))⟩,
        ⟨(some 39), some (32, false), .mv (.t 38)⟩,
        ⟨(some 40), some (39, true), .mv (.t 4)⟩,
        ⟨(some 41), some (39, true), .bin .leq (.t 40) (.c (.int .u8 57))⟩,
        ⟨(some 42), some (32, false), .pick (.t 39) (.t 41) (.c (.bool false))⟩,
        ⟨(some 43), none, .pick (.t 32) (.c (.bool true)) (.t 42)⟩,
        ⟨(some 44), none, .un .not (.t 43)⟩] [0, 3, 44])
    (.cond (.t 44)
      (.seq (.rg [⟨(some 2), none, .mv (.c (.bool false))⟩] [2])
      .ret)
      .skip))))
  (.rg [⟨(some 9), none, .mv (.t 3)⟩,
      ⟨(some 10), none, .bin .add (.t 9) (.c (.int .i64 1))⟩,
      ⟨(some 3), none, .mv (.t 10)⟩] [0, 3])))
def fn19L0 : Cd := .loop [0, 3] fn19B0
def fn19 : Vs.Fn := ⟨1,
  (.seq (.rg [⟨(some 2), none, .mv (.c (.bool false))⟩] [0])
  (.seq (.seq (.rg [⟨(some 3), none, .mv (.c (.int .i64 0))⟩] [0, 3])
  (.block 0
    fn19L0))
  (.seq (.rg [⟨(some 45), none, .mv (.t 0)⟩,
      ⟨(some 46), none, .len true (.t 45)⟩,
      ⟨(some 47), none, .bin .geq (.t 46) (.c (.int .i64 1))⟩,
      ⟨(some 48), none, .mv (.t 47)⟩,
      ⟨(some 49), some (48, true), .mv (.t 0)⟩,
      ⟨(some 50), some (48, true), .len true (.t 49)⟩,
      ⟨(some 51), some (48, true), .bin .leq (.t 50) (.c (.int .i64 20))⟩,
      ⟨(some 52), none, .pick (.t 48) (.t 51) (.c (.bool false))⟩,
      ⟨(some 2), none, .mv (.t 52)⟩] [2])
  .ret))),
  [.t 2]⟩

/- spillway/spillwayref3.Value -/
def an20 : Ann := [[0], [0, 3], [0, 3], [0, 3, 7], [0, 3, 13], [2], [0, 3], [2]]
def fn20B0 : Cd :=
  (.seq (.seq (.rg [⟨(some 4), none, .mv (.t 3)⟩,
      ⟨(some 5), none, .mv (.t 0)⟩,
      ⟨(some 6), none, .len true (.t 5)⟩,
      ⟨(some 7), none, .bin .lss (.t 4) (.t 6)⟩] [0, 3, 7])
  (.cond (.t 7)
    .skip
    (.exit 0)))
  (.seq (.block 1
    (.seq (.rg [⟨(some 10), none, .mv (.t 0)⟩,
        ⟨(some 11), none, .mv (.t 3)⟩,
        ⟨(some 12), none, .ist (.t 10) (.t 11)⟩,
        ⟨(some 13), none, .bin .eql (.t 12) (.c (.int .u8 10))⟩] [0, 3, 13])
    (.cond (.t 13)
      (.seq (.rg [⟨(some 2), none, .mv (.c (.bool false))⟩] [2])
      .ret)
      .skip)))
  (.rg [⟨(some 8), none, .mv (.t 3)⟩,
      ⟨(some 9), none, .bin .add (.t 8) (.c (.int .i64 1))⟩,
      ⟨(some 3), none, .mv (.t 9)⟩] [0, 3])))
def fn20L0 : Cd := .loop [0, 3] fn20B0
def fn20 : Vs.Fn := ⟨1,
  (.seq (.rg [⟨(some 2), none, .mv (.c (.bool false))⟩] [0])
  (.seq (.seq (.rg [⟨(some 3), none, .mv (.c (.int .i64 0))⟩] [0, 3])
  (.block 0
    fn20L0))
  (.seq (.rg [⟨(some 14), none, .mv (.t 0)⟩,
      ⟨(some 15), none, .len true (.t 14)⟩,
      ⟨(some 16), none, .bin .leq (.t 15) (.c (.int .i64 30))⟩,
      ⟨(some 2), none, .mv (.t 16)⟩] [2])
  .ret))),
  [.t 2]⟩

/- strings.HasPrefix -/
def an21 : Ann := [[0, 1], [2], [4]]
def fn21 : Vs.Fn := ⟨2,
  (.seq (.rg [⟨(some 4), none, .mv (.c (.bool false))⟩] [0, 1])
  (.seq (.rg [⟨(some 5), none, .mv (.t 0)⟩,
      ⟨(some 6), none, .mv (.t 1)⟩,
      ⟨(some 7), none, .call 2 (.f 26) [(.t 5), (.t 6)]⟩,
      ⟨(some 4), none, .mv (.t 7)⟩] [4])
  .ret)),
  [.t 4]⟩

/- strings.Trim -/
def an22 : Ann := [[0, 1], [0, 1, 12], [4], [0, 1, 21], [2], [2], [4], [2], [0, 1, 5, 6], [0, 1, 5, 34], [2], [2], [4], [2], [2], [4]]
def fn22 : Vs.Fn := ⟨2,
  (.seq (.rg [⟨(some 4), none, .mv (.c (.string ⟨#[]⟩))⟩] [0, 1])
  (.seq (.seq (.rg [⟨(some 7), none, .mv (.t 0)⟩,
      ⟨(some 8), none, .bin .eql (.t 7) (.c (.string ⟨#[]⟩))⟩,
      ⟨(some 9), none, .mv (.t 8)⟩,
      ⟨(some 10), some (9, false), .mv (.t 1)⟩,
      ⟨(some 11), some (9, false), .bin .eql (.t 10) (.c (.string ⟨#[]⟩))⟩,
      ⟨(some 12), none, .pick (.t 9) (.c (.bool true)) (.t 11)⟩] [0, 1, 12])
  (.cond (.t 12)
    (.seq (.rg [⟨(some 13), none, .mv (.t 0)⟩,
        ⟨(some 4), none, .mv (.t 13)⟩] [4])
    .ret)
    .skip))
  (.seq (.seq (.rg [⟨(some 14), none, .mv (.t 1)⟩,
      ⟨(some 15), none, .len true (.t 14)⟩,
      ⟨(some 16), none, .bin .eql (.t 15) (.c (.int .i64 1))⟩,
      ⟨(some 17), none, .mv (.t 16)⟩,
      ⟨(some 18), some (17, true), .mv (.t 1)⟩,
      ⟨(some 19), some (17, true), .ist (.t 18) (.c (.int .i64 0))⟩,
      ⟨(some 20), some (17, true), .bin .lss (.t 19) (.c (.int .u8 128))⟩,
      ⟨(some 21), none, .pick (.t 17) (.t 20) (.c (.bool false))⟩] [0, 1, 21])
  (.cond (.t 21)
    (.seq (.rg [⟨(some 22), none, .mv (.t 0)⟩,
        ⟨(some 23), none, .mv (.t 1)⟩,
        ⟨(some 24), none, .ist (.t 23) (.c (.int .i64 0))⟩,
        ⟨(some 25), none, .call 2 (.f 28) [(.t 22), (.t 24)]⟩,
        ⟨(some 26), none, .mv (.t 1)⟩,
        ⟨(some 27), none, .ist (.t 26) (.c (.int .i64 0))⟩,
        ⟨(some 28), none, .call 2 (.f 27) [(.t 25), (.t 27)]⟩,
        ⟨(some 4), none, .mv (.t 28)⟩] [4])
    .ret)
    .skip))
  (.seq (.seq (.rg [⟨(some 30), none, .mv (.t 1)⟩,
      ⟨(some 31), none, .call 2 (.f 29) [(.t 30)]⟩,
      ⟨(some 29), none, .mv (.t 31)⟩,
      ⟨(some 32), none, .ext (.t 29) 0⟩,
      ⟨(some 33), none, .ext (.t 29) 1⟩,
      ⟨(some 5), none, .alloc [(.bool false), (.bool false), (.bool false), (.bool false), (.bool false), (.bool false), (.bool false), (.bool false), (.bool false), (.bool false), (.bool false), (.bool false), (.bool false), (.bool false), (.bool false), (.bool false), (.bool false), (.bool false), (.bool false), (.bool false), (.bool false), (.bool false), (.bool false), (.bool false), (.bool false), (.bool false), (.bool false), (.bool false), (.bool false), (.bool false), (.bool false), (.bool false), (.bool false), (.bool false), (.bool false), (.bool false), (.bool false), (.bool false), (.bool false), (.bool false), (.bool false), (.bool false), (.bool false), (.bool false), (.bool false), (.bool false), (.bool false), (.bool false), (.bool false), (.bool false), (.bool false), (.bool false), (.bool false), (.bool false), (.bool false), (.bool false), (.bool false), (.bool false), (.bool false), (.bool false), (.bool false), (.bool false), (.bool false), (.bool false), (.bool false), (.bool false), (.bool false), (.bool false), (.bool false), (.bool false), (.bool false), (.bool false), (.bool false), (.bool false), (.bool false), (.bool false), (.bool false), (.bool false), (.bool false), (.bool false), (.bool false), (.bool false), (.bool false), (.bool false), (.bool false), (.bool false), (.bool false), (.bool false), (.bool false), (.bool false), (.bool false), (.bool false), (.bool false), (.bool false), (.bool false), (.bool false), (.bool false), (.bool false), (.bool false), (.bool false), (.bool false), (.bool false), (.bool false), (.bool false), (.bool false), (.bool false), (.bool false), (.bool false), (.bool false), (.bool false), (.bool false), (.bool false), (.bool false), (.bool false), (.bool false), (.bool false), (.bool false), (.bool false), (.bool false), (.bool false), (.bool false), (.bool false), (.bool false), (.bool false), (.bool false), (.bool false), (.bool false), (.bool false), (.bool false), (.bool false), (.bool false), (.bool false), (.bool false), (.bool false), (.bool false), (.bool false), (.bool false), (.bool false), (.bool false), (.bool false), (.bool false), (.bool false), (.bool false), (.bool false), (.bool false), (.bool false), (.bool false), (.bool false), (.bool false), (.bool false), (.bool false), (.bool false), (.bool false), (.bool false), (.bool false), (.bool false), (.bool false), (.bool false), (.bool false), (.bool false), (.bool false), (.bool false), (.bool false), (.bool false), (.bool false), (.bool false), (.bool false), (.bool false), (.bool false), (.bool false), (.bool false), (.bool false), (.bool false), (.bool false), (.bool false), (.bool false), (.bool false), (.bool false), (.bool false), (.bool false), (.bool false), (.bool false), (.bool false), (.bool false), (.bool false), (.bool false), (.bool false), (.bool false), (.bool false), (.bool false), (.bool false), (.bool false), (.bool false), (.bool false), (.bool false), (.bool false), (.bool false), (.bool false), (.bool false), (.bool false), (.bool false), (.bool false), (.bool false), (.bool false), (.bool false), (.bool false), (.bool false), (.bool false), (.bool false), (.bool false), (.bool false), (.bool false), (.bool false), (.bool false), (.bool false), (.bool false), (.bool false), (.bool false), (.bool false), (.bool false), (.bool false), (.bool false), (.bool false), (.bool false), (.bool false), (.bool false), (.bool false), (.bool false), (.bool false), (.bool false), (.bool false), (.bool false), (.bool false), (.bool false), (.bool false), (.bool false), (.bool false), (.bool false), (.bool false), (.bool false), (.bool false), (.bool false), (.bool false), (.bool false), (.bool false), (.bool false), (.bool false), (.bool false), (.bool false), (.bool false), (.bool false), (.bool false), (.bool false), (.bool false), (.bool false), (.bool false)]⟩,
      ⟨none, none, .store 256 (.t 5) (.t 32)⟩,
      ⟨(some 6), none, .mv (.t 33)⟩] [0, 1, 5, 6])
  (.seq (.rg [⟨(some 34), none, .mv (.t 6)⟩] [0, 1, 5, 34])
  (.cond (.t 34)
    (.seq (.rg [⟨(some 35), none, .mv (.t 0)⟩,
        ⟨(some 36), none, .call 2 (.f 31) [(.t 35), (.t 5)]⟩,
        ⟨(some 37), none, .call 2 (.f 30) [(.t 36), (.t 5)]⟩,
        ⟨(some 4), none, .mv (.t 37)⟩] [4])
    .ret)
    .skip)))
  (.seq (.rg [⟨(some 38), none, .mv (.t 0)⟩,
      ⟨(some 39), none, .mv (.t 1)⟩,
      ⟨(some 40), none, .call 2 (.f 33) [(.t 38), (.t 39)]⟩,
      ⟨(some 41), none, .mv (.t 1)⟩,
      ⟨(some 42), none, .call 2 (.f 32) [(.t 40), (.t 41)]⟩,
      ⟨(some 4), none, .mv (.t 42)⟩] [4])
  .ret))))),
  [.t 4]⟩

/- spillway/label.Get -/
def an23 : Ann := [[0, 1], [1, 7, 8, 9], [1, 7, 8, 9], [1, 7, 8, 9, 10], [1, 6, 7, 8, 9], [1, 6, 7, 8, 9, 16], [4], [1, 7, 8, 9], [4]]
def fn23B0 : Cd :=
  (.seq (.rg [⟨(some 10), none, .bin .lss (.t 9) (.t 8)⟩] [1, 7, 8, 9, 10])
  (.seq (.cond (.t 10)
    .skip
    (.exit 0))
  (.seq (.block 1
    (.seq (.rg [⟨(some 11), none, .iad 2 (.t 7) (.t 9)⟩,
        ⟨(some 12), none, .load true 2 (.t 11) false⟩,
        ⟨(some 6), none, .alloc [(.str ⟨#[]⟩), (.str ⟨#[]⟩)]⟩,
        ⟨none, none, .store 2 (.t 6) (.t 12)⟩] [1, 6, 7, 8, 9])
    (.seq (.rg [⟨(some 13), none, .fad 0 (.t 6)⟩,
        ⟨(some 14), none, .load false 1 (.t 13) false⟩,
        ⟨(some 15), none, .mv (.t 1)⟩,
        ⟨(some 16), none, .bin .eql (.t 14) (.t 15)⟩] [1, 6, 7, 8, 9, 16])
    (.cond (.t 16)
      (.seq (.rg [⟨(some 17), none, .fad 1 (.t 6)⟩,
          ⟨(some 18), none, .load false 1 (.t 17) false⟩,
          ⟨(some 4), none, .mv (.t 18)⟩] [4])
      .ret)
      .skip))))
  (.rg [⟨(some 19), none, .bin .add (.t 9) (.c (.int .i64 1))⟩,
      ⟨(some 9), none, .mv (.t 19)⟩] [1, 7, 8, 9]))))
def fn23L0 : Cd := .loop [1, 7, 8, 9] fn23B0
def fn23 : Vs.Fn := ⟨2,
  (.seq (.rg [⟨(some 4), none, .mv (.c (.string ⟨#[]⟩))⟩] [0, 1])
  (.seq (.seq (.rg [⟨(some 7), none, .mv (.t 0)⟩,
      ⟨(some 8), none, .len false (.t 7)⟩,
      ⟨(some 9), none, .mv (.c (.int .i64 0))⟩] [1, 7, 8, 9])
  (.block 0
    fn23L0))
  (.seq (.rg [⟨(some 4), none, .mv (.c (.string ⟨#[]⟩))⟩] [4])
  .ret))),
  [.t 4]⟩

/- spillway/spillwayref3.Get -/
def an24 : Ann := [[0, 1], [0, 1, 5], [0, 1, 5], [0, 1, 5, 9], [0, 1, 5, 18], [4], [0, 1, 5], [4]]
def fn24B0 : Cd :=
  (.seq (.seq (.rg [⟨(some 6), none, .mv (.t 5)⟩,
      ⟨(some 7), none, .mv (.t 0)⟩,
      ⟨(some 8), none, .len false (.t 7)⟩,
      ⟨(some 9), none, .bin .lss (.t 6) (.t 8)⟩] [0, 1, 5, 9])
  (.cond (.t 9)
    .skip
    (.exit 0)))
  (.seq (.block 1
    (.seq (.rg [⟨(some 12), none, .mv (.t 0)⟩,
        ⟨(some 13), none, .mv (.t 5)⟩,
        ⟨(some 14), none, .iad 2 (.t 12) (.t 13)⟩,
        ⟨(some 15), none, .fad 0 (.t 14)⟩,
        ⟨(some 16), none, .load false 1 (.t 15) false⟩,
        ⟨(some 17), none, .mv (.t 1)⟩,
        ⟨(some 18), none, .bin .eql (.t 16) (.t 17)⟩] [0, 1, 5, 18])
    (.cond (.t 18)
      (.seq (.rg [⟨(some 19), none, .mv (.t 0)⟩,
          ⟨(some 20), none, .mv (.t 5)⟩,
          ⟨(some 21), none, .iad 2 (.t 19) (.t 20)⟩,
          ⟨(some 22), none, .fad 1 (.t 21)⟩,
          ⟨(some 23), none, .load false 1 (.t 22) false⟩,
          ⟨(some 4), none, .mv (.t 23)⟩] [4])
      .ret)
      .skip)))
  (.rg [⟨(some 10), none, .mv (.t 5)⟩,
      ⟨(some 11), none, .bin .add (.t 10) (.c (.int .i64 1))⟩,
      ⟨(some 5), none, .mv (.t 11)⟩] [0, 1, 5])))
def fn24L0 : Cd := .loop [0, 1, 5] fn24B0
def fn24 : Vs.Fn := ⟨2,
  (.seq (.rg [⟨(some 4), none, .mv (.c (.string ⟨#[]⟩))⟩] [0, 1])
  (.seq (.seq (.rg [⟨(some 5), none, .mv (.c (.int .i64 0))⟩] [0, 1, 5])
  (.block 0
    fn24L0))
  (.seq (.rg [⟨(some 4), none, .mv (.c (.string ⟨#[]⟩))⟩] [4])
  .ret))),
  [.t 4]⟩

/- strings.IndexByte -/
def an25 : Ann := [[0, 1], [2], [4]]
def fn25 : Vs.Fn := ⟨2,
  (.seq (.rg [⟨(some 4), none, .mv (.c (.int .i64 0))⟩] [0, 1])
  (.seq (.rg [⟨(some 5), none, .mv (.t 0)⟩,
      ⟨(some 6), none, .mv (.t 1)⟩,
      ⟨(some 7), none, .call 2 (.f 34) [(.t 5), (.t 6)]⟩,
      ⟨(some 4), none, .mv (.t 7)⟩] [4])
  .ret)),
  [.t 4]⟩

/- internal/stringslite.HasPrefix -/
def an26 : Ann := [[0, 1], [4]]
def fn26 : Vs.Fn := ⟨2,
  (.seq (.rg [⟨(some 4), none, .mv (.c (.bool false))⟩] [0, 1])
  (.seq (.rg [⟨(some 5), none, .mv (.t 0)⟩,
      ⟨(some 6), none, .len true (.t 5)⟩,
      ⟨(some 7), none, .mv (.t 1)⟩,
      ⟨(some 8), none, .len true (.t 7)⟩,
      ⟨(some 9), none, .bin .geq (.t 6) (.t 8)⟩,
      ⟨(some 10), none, .mv (.t 9)⟩,
      ⟨(some 11), some (10, true), .mv (.t 0)⟩,
      ⟨(some 12), some (10, true), .mv (.t 1)⟩,
      ⟨(some 13), some (10, true), .len true (.t 12)⟩,
      ⟨(some 14), some (10, true), .slst (.t 11) none (some (.t 13))⟩,
      ⟨(some 15), some (10, true), .mv (.t 1)⟩,
      ⟨(some 16), some (10, true), .bin .eql (.t 14) (.t 15)⟩,
      ⟨(some 17), none, .pick (.t 10) (.t 16) (.c (.bool false))⟩,
      ⟨(some 4), none, .mv (.t 17)⟩] [4])
  .ret)),
  [.t 4]⟩

/- strings.trimLeftByte -/
def an27 : Ann := [[0, 1], [0, 1], [0, 1, 13], [0, 1], [4]]
def fn27B0 : Cd :=
  (.seq (.seq (.rg [⟨(some 5), none, .mv (.t 0)⟩,
      ⟨(some 6), none, .len true (.t 5)⟩,
      ⟨(some 7), none, .bin .gtr (.t 6) (.c (.int .i64 0))⟩,
      ⟨(some 8), none, .mv (.t 7)⟩,
      ⟨(some 9), some (8, true), .mv (.t 0)⟩,
      ⟨(some 10), some (8, true), .ist (.t 9) (.c (.int .i64 0))⟩,
      ⟨(some 11), some (8, true), .mv (.t 1)⟩,
      ⟨(some 12), some (8, true), .bin .eql (.t 10) (.t 11)⟩,
      ⟨(some 13), none, .pick (.t 8) (.t 12) (.c (.bool false))⟩] [0, 1, 13])
  (.cond (.t 13)
    .skip
    (.exit 0)))
  (.block 1
    (.rg [⟨(some 14), none, .mv (.t 0)⟩,
        ⟨(some 15), none, .slst (.t 14) (some (.c (.int .i64 1))) none⟩,
        ⟨(some 0), none, .mv (.t 15)⟩] [0, 1])))
def fn27L0 : Cd := .loop [0, 1] fn27B0
def fn27 : Vs.Fn := ⟨2,
  (.seq (.rg [⟨(some 4), none, .mv (.c (.string ⟨#[]⟩))⟩] [0, 1])
  (.seq (.block 0
    fn27L0)
  (.seq (.rg [⟨(some 16), none, .mv (.t 0)⟩,
      ⟨(some 4), none, .mv (.t 16)⟩] [4])
  .ret))),
  [.t 4]⟩

/- strings.trimRightByte -/
def an28 : Ann := [[0, 1], [0, 1], [0, 1, 16], [0, 1], [4]]
def fn28B0 : Cd :=
  (.seq (.seq (.rg [⟨(some 5), none, .mv (.t 0)⟩,
      ⟨(some 6), none, .len true (.t 5)⟩,
      ⟨(some 7), none, .bin .gtr (.t 6) (.c (.int .i64 0))⟩,
      ⟨(some 8), none, .mv (.t 7)⟩,
      ⟨(some 9), some (8, true), .mv (.t 0)⟩,
      ⟨(some 10), some (8, true), .mv (.t 0)⟩,
      ⟨(some 11), some (8, true), .len true (.t 10)⟩,
      ⟨(some 12), some (8, true), .bin .sub (.t 11) (.c (.int .i64 1))⟩,
      ⟨(some 13), some (8, true), .ist (.t 9) (.t 12)⟩,
      ⟨(some 14), some (8, true), .mv (.t 1)⟩,
      ⟨(some 15), some (8, true), .bin .eql (.t 13) (.t 14)⟩,
      ⟨(some 16), none, .pick (.t 8) (.t 15) (.c (.bool false))⟩] [0, 1, 16])
  (.cond (.t 16)
    .skip
    (.exit 0)))
  (.block 1
    (.rg [⟨(some 17), none, .mv (.t 0)⟩,
        ⟨(some 18), none, .mv (.t 0)⟩,
        ⟨(some 19), none, .len true (.t 18)⟩,
        ⟨(some 20), none, .bin .sub (.t 19) (.c (.int .i64 1))⟩,
        ⟨(some 21), none, .slst (.t 17) none (some (.t 20))⟩,
        ⟨(some 0), none, .mv (.t 21)⟩] [0, 1])))
def fn28L0 : Cd := .loop [0, 1] fn28B0
def fn28 : Vs.Fn := ⟨2,
  (.seq (.rg [⟨(some 4), none, .mv (.c (.string ⟨#[]⟩))⟩] [0, 1])
  (.seq (.block 0
    fn28L0)
  (.seq (.rg [⟨(some 22), none, .mv (.t 0)⟩,
      ⟨(some 4), none, .mv (.t 22)⟩] [4])
  .ret))),
  [.t 4]⟩

/- strings.makeASCIISet -/
def an29 : Ann := [[0, 2], [0, 2, 4], [0, 2, 4], [0, 2, 4, 9], [0, 2, 4, 5], [0, 2, 4, 5, 16], [2, 3], [0, 2, 4], [0, 2, 4], [2, 3]]
def fn29B0 : Cd :=
  (.seq (.seq (.rg [⟨(some 6), none, .mv (.t 4)⟩,
      ⟨(some 7), none, .mv (.t 0)⟩,
      ⟨(some 8), none, .len true (.t 7)⟩,
      ⟨(some 9), none, .bin .lss (.t 6) (.t 8)⟩] [0, 2, 4, 9])
  (.cond (.t 9)
    .skip
    (.exit 0)))
  (.seq (.block 1
    (.seq (.rg [⟨(some 12), none, .mv (.t 0)⟩,
        ⟨(some 13), none, .mv (.t 4)⟩,
        ⟨(some 14), none, .ist (.t 12) (.t 13)⟩,
        ⟨(some 5), none, .mv (.t 14)⟩] [0, 2, 4, 5])
    (.seq (.seq (.rg [⟨(some 15), none, .mv (.t 5)⟩,
        ⟨(some 16), none, .bin .geq (.t 15) (.c (.int .u8 128))⟩] [0, 2, 4, 5, 16])
    (.cond (.t 16)
      (.seq (.rg [⟨(some 17), none, .load true 256 (.t 2) false⟩,
          ⟨none, none, .store 256 (.t 2) (.t 17)⟩,
          ⟨(some 3), none, .mv (.c (.bool false))⟩] [2, 3])
      .ret)
      .skip))
    (.rg [⟨(some 18), none, .mv (.t 5)⟩,
        ⟨(some 19), none, .iar 256 1 (.t 2) (.t 18)⟩,
        ⟨none, none, .store 1 (.t 19) (.c (.bool true))⟩] [0, 2, 4]))))
  (.rg [⟨(some 10), none, .mv (.t 4)⟩,
      ⟨(some 11), none, .bin .add (.t 10) (.c (.int .i64 1))⟩,
      ⟨(some 4), none, .mv (.t 11)⟩] [0, 2, 4])))
def fn29L0 : Cd := .loop [0, 2, 4] fn29B0
def fn29 : Vs.Fn := ⟨1,
  (.seq (.rg [⟨(some 2), none, .alloc [(.bool false), (.bool false), (.bool false), (.bool false), (.bool false), (.bool false), (.bool false), (.bool false), (.bool false), (.bool false), (.bool false), (.bool false), (.bool false), (.bool false), (.bool false), (.bool false), (.bool false), (.bool false), (.bool false), (.bool false), (.bool false), (.bool false), (.bool false), (.bool false), (.bool false), (.bool false), (.bool false), (.bool false), (.bool false), (.bool false), (.bool false), (.bool false), (.bool false), (.bool false), (.bool false), (.bool false), (.bool false), (.bool false), (.bool false), (.bool false), (.bool false), (.bool false), (.bool false), (.bool false), (.bool false), (.bool false), (.bool false), (.bool false), (.bool false), (.bool false), (.bool false), (.bool false), (.bool false), (.bool false), (.bool false), (.bool false), (.bool false), (.bool false), (.bool false), (.bool false), (.bool false), (.bool false), (.bool false), (.bool false), (.bool false), (.bool false), (.bool false), (.bool false), (.bool false), (.bool false), (.bool false), (.bool false), (.bool false), (.bool false), (.bool false), (.bool false), (.bool false), (.bool false), (.bool false), (.bool false), (.bool false), (.bool false), (.bool false), (.bool false), (.bool false), (.bool false), (.bool false), (.bool false), (.bool false), (.bool false), (.bool false), (.bool false), (.bool false), (.bool false), (.bool false), (.bool false), (.bool false), (.bool false), (.bool false), (.bool false), (.bool false), (.bool false), (.bool false), (.bool false), (.bool false), (.bool false), (.bool false), (.bool false), (.bool false), (.bool false), (.bool false), (.bool false), (.bool false), (.bool false), (.bool false), (.bool false), (.bool false), (.bool false), (.bool false), (.bool false), (.bool false), (.bool false), (.bool false), (.bool false), (.bool false), (.bool false), (.bool false), (.bool false), (.bool false), (.bool false), (.bool false), (.bool false), (.bool false), (.bool false), (.bool false), (.bool false), (.bool false), (.bool false), (.bool false), (.bool false), (.bool false), (.bool false), (.bool false), (.bool false), (.bool false), (.bool false), (.bool false), (.bool false), (.bool false), (.bool false), (.bool false), (.bool false), (.bool false), (.bool false), (.bool false), (.bool false), (.bool false), (.bool false), (.bool false), (.bool false), (.bool false), (.bool false), (.bool false), (.bool false), (.bool false), (.bool false), (.bool false), (.bool false), (.bool false), (.bool false), (.bool false), (.bool false), (.bool false), (.bool false), (.bool false), (.bool false), (.bool false), (.bool false), (.bool false), (.bool false), (.bool false), (.bool false), (.bool false), (.bool false), (.bool false), (.bool false), (.bool false), (.bool false), (.bool false), (.bool false), (.bool false), (.bool false), (.bool false), (.bool false), (.bool false), (.bool false), (.bool false), (.bool false), (.bool false), (.bool false), (.bool false), (.bool false), (.bool false), (.bool false), (.bool false), (.bool false), (.bool false), (.bool false), (.bool false), (.bool false), (.bool false), (.bool false), (.bool false), (.bool false), (.bool false), (.bool false), (.bool false), (.bool false), (.bool false), (.bool false), (.bool false), (.bool false), (.bool false), (.bool false), (.bool false), (.bool false), (.bool false), (.bool false), (.bool false), (.bool false), (.bool false), (.bool false), (.bool false), (.bool false), (.bool false), (.bool false), (.bool false), (.bool false), (.bool false), (.bool false), (.bool false), (.bool false), (.bool false), (.bool false), (.bool false), (.bool false), (.bool false), (.bool false), (.bool false), (.bool false), (.bool false), (.bool false), (.bool false), (.bool false), (.bool false), (.bool false)]⟩,
      ⟨(some 3), none, .mv (.c (.bool false))⟩] [0, 2])
  (.seq (.seq (.rg [⟨(some 4), none, .mv (.c (.int .i64 0))⟩] [0, 2, 4])
  (.block 0
    fn29L0))
  (.seq (.rg [⟨(some 20), none, .load true 256 (.t 2) false⟩,
      ⟨none, none, .store 256 (.t 2) (.t 20)⟩,
      ⟨(some 3), none, .mv (.c (.bool true))⟩] [2, 3])
  .ret))),
  [.cell 2 true 256, .t 3]⟩

/- strings.trimLeftASCII -/
def an30 : Ann := [[0, 1], [0, 1], [0, 1, 7], [2], [0, 1, 12], [0, 1], [4]]
def fn30B0 : Cd :=
  (.seq (.seq (.rg [⟨(some 5), none, .mv (.t 0)⟩,
      ⟨(some 6), none, .len true (.t 5)⟩,
      ⟨(some 7), none, .bin .gtr (.t 6) (.c (.int .i64 0))⟩] [0, 1, 7])
  (.cond (.t 7)
    .skip
    (.exit 0)))
  (.block 1
    (.seq (.seq (.rg [⟨(some 8), none, .mv (.t 1)⟩,
        ⟨(some 9), none, .mv (.t 0)⟩,
        ⟨(some 10), none, .ist (.t 9) (.c (.int .i64 0))⟩,
        ⟨(some 11), none, .call 2 (.f 35) [(.t 8), (.t 10)]⟩,
        ⟨(some 12), none, .un .not (.t 11)⟩] [0, 1, 12])
    (.cond (.t 12)
      (.exit 0)
      .skip))
    (.rg [⟨(some 13), none, .mv (.t 0)⟩,
        ⟨(some 14), none, .slst (.t 13) (some (.c (.int .i64 1))) none⟩,
        ⟨(some 0), none, .mv (.t 14)⟩] [0, 1]))))
def fn30L0 : Cd := .loop [0, 1] fn30B0
def fn30 : Vs.Fn := ⟨2,
  (.seq (.rg [⟨(some 4), none, .mv (.c (.string ⟨#[]⟩))⟩] [0, 1])
  (.seq (.block 0
    fn30L0)
  (.seq (.rg [⟨(some 15), none, .mv (.t 0)⟩,
      ⟨(some 4), none, .mv (.t 15)⟩] [4])
  .ret))),
  [.t 4]⟩

/- strings.trimRightASCII -/
def an31 : Ann := [[0, 1], [0, 1], [0, 1, 7], [2], [0, 1, 15], [0, 1], [4]]
def fn31B0 : Cd :=
  (.seq (.seq (.rg [⟨(some 5), none, .mv (.t 0)⟩,
      ⟨(some 6), none, .len true (.t 5)⟩,
      ⟨(some 7), none, .bin .gtr (.t 6) (.c (.int .i64 0))⟩] [0, 1, 7])
  (.cond (.t 7)
    .skip
    (.exit 0)))
  (.block 1
    (.seq (.seq (.rg [⟨(some 8), none, .mv (.t 1)⟩,
        ⟨(some 9), none, .mv (.t 0)⟩,
        ⟨(some 10), none, .mv (.t 0)⟩,
        ⟨(some 11), none, .len true (.t 10)⟩,
        ⟨(some 12), none, .bin .sub (.t 11) (.c (.int .i64 1))⟩,
        ⟨(some 13), none, .ist (.t 9) (.t 12)⟩,
        ⟨(some 14), none, .call 2 (.f 35) [(.t 8), (.t 13)]⟩,
        ⟨(some 15), none, .un .not (.t 14)⟩] [0, 1, 15])
    (.cond (.t 15)
      (.exit 0)
      .skip))
    (.rg [⟨(some 16), none, .mv (.t 0)⟩,
        ⟨(some 17), none, .mv (.t 0)⟩,
        ⟨(some 18), none, .len true (.t 17)⟩,
        ⟨(some 19), none, .bin .sub (.t 18) (.c (.int .i64 1))⟩,
        ⟨(some 20), none, .slst (.t 16) none (some (.t 19))⟩,
        ⟨(some 0), none, .mv (.t 20)⟩] [0, 1]))))
def fn31L0 : Cd := .loop [0, 1] fn31B0
def fn31 : Vs.Fn := ⟨2,
  (.seq (.rg [⟨(some 4), none, .mv (.c (.string ⟨#[]⟩))⟩] [0, 1])
  (.seq (.block 0
    fn31L0)
  (.seq (.rg [⟨(some 21), none, .mv (.t 0)⟩,
      ⟨(some 4), none, .mv (.t 21)⟩] [4])
  .ret))),
  [.t 4]⟩

/- strings.trimLeftUnicode -/
def an32 : Ann := [[0, 1], [0, 1], [0, 1, 9], [2], [0, 1, 5, 6], [2], [0, 1, 6, 18], [0, 1], [4]]
def fn32B0 : Cd :=
  (.seq (.seq (.rg [⟨(some 7), none, .mv (.t 0)⟩,
      ⟨(some 8), none, .len true (.t 7)⟩,
      ⟨(some 9), none, .bin .gtr (.t 8) (.c (.int .i64 0))⟩] [0, 1, 9])
  (.cond (.t 9)
    .skip
    (.exit 0)))
  (.block 1
    (.seq (.rg [⟨(some 11), none, .mv (.t 0)⟩,
        ⟨(some 12), none, .call 2 (.f 36) [(.t 11)]⟩,
        ⟨(some 10), none, .mv (.t 12)⟩,
        ⟨(some 13), none, .ext (.t 10) 0⟩,
        ⟨(some 14), none, .ext (.t 10) 1⟩,
        ⟨(some 5), none, .mv (.t 13)⟩,
        ⟨(some 6), none, .mv (.t 14)⟩] [0, 1, 5, 6])
    (.seq (.seq (.rg [⟨(some 15), none, .mv (.t 1)⟩,
        ⟨(some 16), none, .mv (.t 5)⟩,
        ⟨(some 17), none, .call 2 (.f 37) [(.t 15), (.t 16)]⟩,
        ⟨(some 18), none, .un .not (.t 17)⟩] [0, 1, 6, 18])
    (.cond (.t 18)
      (.exit 0)
      .skip))
    (.rg [⟨(some 19), none, .mv (.t 0)⟩,
        ⟨(some 20), none, .mv (.t 6)⟩,
        ⟨(some 21), none, .slst (.t 19) (some (.t 20)) none⟩,
        ⟨(some 0), none, .mv (.t 21)⟩] [0, 1])))))
def fn32L0 : Cd := .loop [0, 1] fn32B0
def fn32 : Vs.Fn := ⟨2,
  (.seq (.rg [⟨(some 4), none, .mv (.c (.string ⟨#[]⟩))⟩] [0, 1])
  (.seq (.block 0
    fn32L0)
  (.seq (.rg [⟨(some 22), none, .mv (.t 0)⟩,
      ⟨(some 4), none, .mv (.t 22)⟩] [4])
  .ret))),
  [.t 4]⟩

/- strings.trimRightUnicode -/
def an33 : Ann := [[0, 1], [0, 1], [0, 1, 9], [0, 1, 5, 6], [0, 1, 5, 6, 17], [2], [0, 1, 5, 6], [2], [0, 1, 6, 26], [0, 1], [4]]
def fn33B0 : Cd :=
  (.seq (.seq (.rg [⟨(some 7), none, .mv (.t 0)⟩,
      ⟨(some 8), none, .len true (.t 7)⟩,
      ⟨(some 9), none, .bin .gtr (.t 8) (.c (.int .i64 0))⟩] [0, 1, 9])
  (.cond (.t 9)
    .skip
    (.exit 0)))
  (.block 1
    (.seq (.rg [⟨(some 10), none, .mv (.t 0)⟩,
        ⟨(some 11), none, .mv (.t 0)⟩,
        ⟨(some 12), none, .len true (.t 11)⟩,
        ⟨(some 13), none, .bin .sub (.t 12) (.c (.int .i64 1))⟩,
        ⟨(some 14), none, .ist (.t 10) (.t 13)⟩,
        ⟨(some 15), none, .cvi .i32 (.t 14)⟩,
        ⟨(some 5), none, .mv (.t 15)⟩,
        ⟨(some 6), none, .mv (.c (.int .i64 1))⟩] [0, 1, 5, 6])
    (.seq (.seq (.rg [⟨(some 16), none, .mv (.t 5)⟩,
        ⟨(some 17), none, .bin .geq (.t 16) (.c (.int .i32 128))⟩] [0, 1, 5, 6, 17])
    (.cond (.t 17)
      (.rg [⟨(some 19), none, .mv (.t 0)⟩,
          ⟨(some 20), none, .call 2 (.f 38) [(.t 19)]⟩,
          ⟨(some 18), none, .mv (.t 20)⟩,
          ⟨(some 21), none, .ext (.t 18) 0⟩,
          ⟨(some 22), none, .ext (.t 18) 1⟩,
          ⟨(some 5), none, .mv (.t 21)⟩,
          ⟨(some 6), none, .mv (.t 22)⟩] [0, 1, 5, 6])
      .skip))
    (.seq (.seq (.rg [⟨(some 23), none, .mv (.t 1)⟩,
        ⟨(some 24), none, .mv (.t 5)⟩,
        ⟨(some 25), none, .call 2 (.f 37) [(.t 23), (.t 24)]⟩,
        ⟨(some 26), none, .un .not (.t 25)⟩] [0, 1, 6, 26])
    (.cond (.t 26)
      (.exit 0)
      .skip))
    (.rg [⟨(some 27), none, .mv (.t 0)⟩,
        ⟨(some 28), none, .mv (.t 0)⟩,
        ⟨(some 29), none, .len true (.t 28)⟩,
        ⟨(some 30), none, .mv (.t 6)⟩,
        ⟨(some 31), none, .bin .sub (.t 29) (.t 30)⟩,
        ⟨(some 32), none, .slst (.t 27) none (some (.t 31))⟩,
        ⟨(some 0), none, .mv (.t 32)⟩] [0, 1]))))))
def fn33L0 : Cd := .loop [0, 1] fn33B0
def fn33 : Vs.Fn := ⟨2,
  (.seq (.rg [⟨(some 4), none, .mv (.c (.string ⟨#[]⟩))⟩] [0, 1])
  (.seq (.block 0
    fn33L0)
  (.seq (.rg [⟨(some 33), none, .mv (.t 0)⟩,
      ⟨(some 4), none, .mv (.t 33)⟩] [4])
  .ret))),
  [.t 4]⟩

/- internal/stringslite.IndexByte -/
def an34 : Ann := [[0, 1], [2], [4]]
def fn34 : Vs.Fn := ⟨2,
  (.seq (.rg [⟨(some 4), none, .mv (.c (.int .i64 0))⟩] [0, 1])
  (.seq (.rg [⟨(some 5), none, .mv (.t 0)⟩,
      ⟨(some 6), none, .mv (.t 1)⟩,
      ⟨(some 7), none, .pr .ixb [(.t 5), (.t 6)]⟩,
      ⟨(some 4), none, .mv (.t 7)⟩] [4])
  .ret)),
  [.t 4]⟩

/- (*strings.asciiSet).contains -/
def an35 : Ann := [[0, 1], [4]]
def fn35 : Vs.Fn := ⟨2,
  (.seq (.rg [⟨(some 4), none, .mv (.c (.bool false))⟩] [0, 1])
  (.seq (.rg [⟨(some 5), none, .mv (.t 0)⟩,
      ⟨(some 6), none, .mv (.t 1)⟩,
      ⟨(some 7), none, .nilck (.t 5)⟩,
      ⟨(some 8), none, .iar 256 1 (.t 7) (.t 6)⟩,
      ⟨(some 9), none, .load false 1 (.t 8) false⟩,
      ⟨(some 4), none, .mv (.t 9)⟩] [4])
  .ret)),
  [.t 4]⟩

/- unicode/utf8.DecodeRuneInString -/
def an36 : Ann := [[0], [0, 10], [2, 3], [2], [2, 3]]
def fn36 : Vs.Fn := ⟨1,
  (.seq (.rg [⟨(some 2), none, .mv (.c (.int .i32 0))⟩,
      ⟨(some 3), none, .mv (.c (.int .i64 0))⟩] [0])
  (.seq (.seq (.rg [⟨(some 4), none, .mv (.t 0)⟩,
      ⟨(some 5), none, .bin .neq (.t 4) (.c (.string ⟨#[]⟩))⟩,
      ⟨(some 6), none, .mv (.t 5)⟩,
      ⟨(some 7), some (6, true), .mv (.t 0)⟩,
      ⟨(some 8), some (6, true), .ist (.t 7) (.c (.int .i64 0))⟩,
      ⟨(some 9), some (6, true), .bin .lss (.t 8) (.c (.int .u8 128))⟩,
      ⟨(some 10), none, .pick (.t 6) (.t 9) (.c (.bool false))⟩] [0, 10])
  (.cond (.t 10)
    (.seq (.rg [⟨(some 11), none, .mv (.t 0)⟩,
        ⟨(some 12), none, .ist (.t 11) (.c (.int .i64 0))⟩,
        ⟨(some 13), none, .cvi .i32 (.t 12)⟩,
        ⟨(some 2), none, .mv (.t 13)⟩,
        ⟨(some 3), none, .mv (.c (.int .i64 1))⟩] [2, 3])
    .ret)
    (.rg [⟨(some 15), none, .mv (.t 0)⟩,
        ⟨(some 16), none, .call 2 (.f 40) [(.t 15)]⟩,
        ⟨(some 14), none, .mv (.t 16)⟩,
        ⟨(some 17), none, .ext (.t 14) 0⟩,
        ⟨(some 18), none, .ext (.t 14) 1⟩,
        ⟨(some 2), none, .mv (.t 17)⟩,
        ⟨(some 3), none, .mv (.t 18)⟩] [2, 3])))
  .ret)),
  [.t 2, .t 3]⟩

/- strings.ContainsRune -/
def an37 : Ann := [[0, 1], [2], [4]]
def fn37 : Vs.Fn := ⟨2,
  (.seq (.rg [⟨(some 4), none, .mv (.c (.bool false))⟩] [0, 1])
  (.seq (.rg [⟨(some 5), none, .mv (.t 0)⟩,
      ⟨(some 6), none, .mv (.t 1)⟩,
      ⟨(some 7), none, .call 2 (.f 41) [(.t 5), (.t 6)]⟩,
      ⟨(some 8), none, .bin .geq (.t 7) (.c (.int .i64 0))⟩,
      ⟨(some 4), none, .mv (.t 8)⟩] [4])
  .ret)),
  [.t 4]⟩

/- unicode/utf8.DecodeLastRuneInString -/
def an38 : Ann := [[0], [0, 4], [0, 4, 10], [2, 3], [0, 4, 5], [0, 2, 4, 5], [0, 2, 4, 5, 18], [2, 3], [0, 4, 5, 6], [0, 4, 5, 6], [0, 4, 5, 6], [0, 4, 5, 6, 27], [2], [0, 4, 5, 6, 33], [0, 4, 5, 6], [0, 4, 5, 35], [0, 4, 5], [2], [2, 3, 4, 5], [2, 3, 48], [2, 3], [2, 3]]
def fn38B0 : Cd :=
  (.seq (.seq (.rg [⟨(some 25), none, .mv (.t 5)⟩,
      ⟨(some 26), none, .mv (.t 6)⟩,
      ⟨(some 27), none, .bin .geq (.t 25) (.t 26)⟩] [0, 4, 5, 6, 27])
  (.cond (.t 27)
    .skip
    (.exit 0)))
  (.seq (.block 1
    (.seq (.rg [⟨(some 30), none, .mv (.t 0)⟩,
        ⟨(some 31), none, .mv (.t 5)⟩,
        ⟨(some 32), none, .ist (.t 30) (.t 31)⟩,
        ⟨(some 33), none, .call 2 (.f 42) [(.t 32)]⟩] [0, 4, 5, 6, 33])
    (.cond (.t 33)
      (.exit 0)
      .skip)))
  (.rg [⟨(some 28), none, .mv (.t 5)⟩,
      ⟨(some 29), none, .bin .sub (.t 28) (.c (.int .i64 1))⟩,
      ⟨(some 5), none, .mv (.t 29)⟩] [0, 4, 5, 6])))
def fn38L0 : Cd := .loop [0, 4, 5, 6] fn38B0
def fn38 : Vs.Fn := ⟨1,
  (.seq (.rg [⟨(some 2), none, .mv (.c (.int .i32 0))⟩,
      ⟨(some 3), none, .mv (.c (.int .i64 0))⟩] [0])
  (.seq (.rg [⟨(some 7), none, .mv (.t 0)⟩,
      ⟨(some 8), none, .len true (.t 7)⟩,
      ⟨(some 4), none, .mv (.t 8)⟩] [0, 4])
  (.seq (.seq (.rg [⟨(some 9), none, .mv (.t 4)⟩,
      ⟨(some 10), none, .bin .eql (.t 9) (.c (.int .i64 0))⟩] [0, 4, 10])
  (.cond (.t 10)
    (.seq (.rg [⟨(some 2), none, .mv (.c (.int .i32 65533))⟩,
        ⟨(some 3), none, .mv (.c (.int .i64 0))⟩] [2, 3])
    .ret)
    .skip))
  (.seq (.rg [⟨(some 11), none, .mv (.t 4)⟩,
      ⟨(some 12), none, .bin .sub (.t 11) (.c (.int .i64 1))⟩,
      ⟨(some 5), none, .mv (.t 12)⟩] [0, 4, 5])
  (.seq (.rg [⟨(some 13), none, .mv (.t 0)⟩,
      ⟨(some 14), none, .mv (.t 5)⟩,
      ⟨(some 15), none, .ist (.t 13) (.t 14)⟩,
      ⟨(some 16), none, .cvi .i32 (.t 15)⟩,
      ⟨(some 2), none, .mv (.t 16)⟩] [0, 2, 4, 5])
  (.seq (.seq (.rg [⟨(some 17), none, .mv (.t 2)⟩,
      ⟨(some 18), none, .bin .lss (.t 17) (.c (.int .i32 128))⟩] [0, 2, 4, 5, 18])
  (.cond (.t 18)
    (.seq (.rg [⟨(some 19), none, .mv (.t 2)⟩,
        ⟨(some 2), none, .mv (.t 19)⟩,
        ⟨(some 3), none, .mv (.c (.int .i64 1))⟩] [2, 3])
    .ret)
    .skip))
  (.seq (.rg [⟨(some 20), none, .mv (.t 4)⟩,
      ⟨(some 21), none, .bin .sub (.t 20) (.c (.int .i64 4))⟩,
      ⟨(some 22), none, .mx [(.t 21), (.c (.int .i64 0))]⟩,
      ⟨(some 6), none, .mv (.t 22)⟩] [0, 4, 5, 6])
  (.seq (.seq (.rg [⟨(some 23), none, .mv (.t 5)⟩,
      ⟨(some 24), none, .bin .sub (.t 23) (.c (.int .i64 1))⟩,
      ⟨(some 5), none, .mv (.t 24)⟩] [0, 4, 5, 6])
  (.block 0
    fn38L0))
  (.seq (.seq (.rg [⟨(some 34), none, .mv (.t 5)⟩,
      ⟨(some 35), none, .bin .lss (.t 34) (.c (.int .i64 0))⟩] [0, 4, 5, 35])
  (.cond (.t 35)
    (.rg [⟨(some 5), none, .mv (.c (.int .i64 0))⟩] [0, 4, 5])
    .skip))
  (.seq (.rg [⟨(some 37), none, .mv (.t 0)⟩,
      ⟨(some 38), none, .mv (.t 5)⟩,
      ⟨(some 39), none, .mv (.t 4)⟩,
      ⟨(some 40), none, .slst (.t 37) (some (.t 38)) (some (.t 39))⟩,
      ⟨(some 41), none, .call 2 (.f 36) [(.t 40)]⟩,
      ⟨(some 36), none, .mv (.t 41)⟩,
      ⟨(some 42), none, .ext (.t 36) 0⟩,
      ⟨(some 43), none, .ext (.t 36) 1⟩,
      ⟨(some 2), none, .mv (.t 42)⟩,
      ⟨(some 3), none, .mv (.t 43)⟩] [2, 3, 4, 5])
  (.seq (.seq (.rg [⟨(some 44), none, .mv (.t 5)⟩,
      ⟨(some 45), none, .mv (.t 3)⟩,
      ⟨(some 46), none, .bin .add (.t 44) (.t 45)⟩,
      ⟨(some 47), none, .mv (.t 4)⟩,
      ⟨(some 48), none, .bin .neq (.t 46) (.t 47)⟩] [2, 3, 48])
  (.cond (.t 48)
    (.seq (.rg [⟨(some 2), none, .mv (.c (.int .i32 65533))⟩,
        ⟨(some 3), none, .mv (.c (.int .i64 1))⟩] [2, 3])
    .ret)
    .skip))
  (.seq (.rg [⟨(some 49), none, .mv (.t 2)⟩,
      ⟨(some 50), none, .mv (.t 3)⟩,
      ⟨(some 2), none, .mv (.t 49)⟩,
      ⟨(some 3), none, .mv (.t 50)⟩] [2, 3])
  .ret)))))))))))),
  [.t 2, .t 3]⟩

/- unicode/utf8.decodeRuneInStringSlow -/
def an40 : Ann := [[0], [0, 4], [0, 4, 16], [2, 3], [0, 4, 5], [0, 4, 5, 6], [0, 4, 5, 6, 23], [0, 7], [2, 3], [0, 4, 5, 6, 8], [0, 4, 5, 8, 9], [0, 5, 8, 9, 45], [2, 3], [0, 5, 8, 9, 10], [0, 5, 8, 10, 57], [2, 3], [0, 5, 8, 10, 59], [2, 3], [0, 5, 8, 10, 11], [0, 5, 8, 10, 11, 75], [2, 3], [0, 5, 10, 11, 77], [2, 3], [5, 10, 11, 12], [5, 10, 11, 12, 98], [2, 3], [2, 3]]
def fn40 : Vs.Fn := ⟨1,
  (.seq (.rg [⟨(some 2), none, .mv (.c (.int .i32 0))⟩,
      ⟨(some 3), none, .mv (.c (.int .i64 0))⟩] [0])
  (.seq (.rg [⟨(some 13), none, .mv (.t 0)⟩,
      ⟨(some 14), none, .len true (.t 13)⟩,
      ⟨(some 4), none, .mv (.t 14)⟩] [0, 4])
  (.seq (.seq (.rg [⟨(some 15), none, .mv (.t 4)⟩,
      ⟨(some 16), none, .bin .lss (.t 15) (.c (.int .i64 1))⟩] [0, 4, 16])
  (.cond (.t 16)
    (.seq (.rg [⟨(some 2), none, .mv (.c (.int .i32 65533))⟩,
        ⟨(some 3), none, .mv (.c (.int .i64 0))⟩] [2, 3])
    .ret)
    .skip))
  (.seq (.rg [⟨(some 17), none, .mv (.t 0)⟩,
      ⟨(some 18), none, .ist (.t 17) (.c (.int .i64 0))⟩,
      ⟨(some 5), none, .mv (.t 18)⟩] [0, 4, 5])
  (.seq .bad
  (.seq (.seq (.rg [⟨(some 22), none, .mv (.t 6)⟩,
      ⟨(some 23), none, .bin .geq (.t 22) (.c (.int .u8 240))⟩] [0, 4, 5, 6, 23])
  (.cond (.t 23)
    (.seq (.rg [⟨(some 24), none, .mv (.t 6)⟩,
        ⟨(some 25), none, .cvi .i32 (.t 24)⟩,
        ⟨(some 26), none, .bin .shl (.t 25) (.c (.int .u64 31))⟩,
        ⟨(some 27), none, .bin .shr (.t 26) (.c (.int .u64 31))⟩,
        ⟨(some 7), none, .mv (.t 27)⟩] [0, 7])
    (.seq (.rg [⟨(some 28), none, .mv (.t 0)⟩,
        ⟨(some 29), none, .ist (.t 28) (.c (.int .i64 0))⟩,
        ⟨(some 30), none, .cvi .i32 (.t 29)⟩,
        ⟨(some 31), none, .mv (.t 7)⟩,
        ⟨(some 32), none, .bin .andNot (.t 30) (.t 31)⟩,
        ⟨(some 33), none, .mv (.t 7)⟩,
        ⟨(some 34), none, .bin .and (.c (.int .i32 65533)) (.t 33)⟩,
        ⟨(some 35), none, .bin .or (.t 32) (.t 34)⟩,
        ⟨(some 2), none, .mv (.t 35)⟩,
        ⟨(some 3), none, .mv (.c (.int .i64 1))⟩] [2, 3])
    .ret))
    .skip))
  (.seq (.rg [⟨(some 36), none, .mv (.t 6)⟩,
      ⟨(some 37), none, .bin .and (.t 36) (.c (.int .u8 7))⟩,
      ⟨(some 38), none, .cvi .i64 (.t 37)⟩,
      ⟨(some 8), none, .mv (.t 38)⟩] [0, 4, 5, 6, 8])
  (.seq .bad
  (.seq (.seq (.rg [⟨(some 43), none, .mv (.t 4)⟩,
      ⟨(some 44), none, .mv (.t 8)⟩,
      ⟨(some 45), none, .bin .lss (.t 43) (.t 44)⟩] [0, 5, 8, 9, 45])
  (.cond (.t 45)
    (.seq (.rg [⟨(some 2), none, .mv (.c (.int .i32 65533))⟩,
        ⟨(some 3), none, .mv (.c (.int .i64 1))⟩] [2, 3])
    .ret)
    .skip))
  (.seq (.rg [⟨(some 46), none, .mv (.t 0)⟩,
      ⟨(some 47), none, .ist (.t 46) (.c (.int .i64 1))⟩,
      ⟨(some 10), none, .mv (.t 47)⟩] [0, 5, 8, 9, 10])
  (.seq (.seq (.rg [⟨(some 48), none, .mv (.t 10)⟩,
      ⟨(some 49), none, .fad 0 (.t 9)⟩,
      ⟨(some 50), none, .load false 1 (.t 49) false⟩,
      ⟨(some 51), none, .bin .lss (.t 48) (.t 50)⟩,
      ⟨(some 52), none, .mv (.t 51)⟩,
      ⟨(some 53), some (52, false), .fad 1 (.t 9)⟩,
      ⟨(some 54), some (52, false), .load false 1 (.t 53) false⟩,
      ⟨(some 55), some (52, false), .mv (.t 10)⟩,
      ⟨(some 56), some (52, false), .bin .lss (.t 54) (.t 55)⟩,
      ⟨(some 57), none, .pick (.t 52) (.c (.bool true)) (.t 56)⟩] [0, 5, 8, 10, 57])
  (.cond (.t 57)
    (.seq (.rg [⟨(some 2), none, .mv (.c (.int .i32 65533))⟩,
        ⟨(some 3), none, .mv (.c (.int .i64 1))⟩] [2, 3])
    .ret)
    .skip))
  (.seq (.seq (.rg [⟨(some 58), none, .mv (.t 8)⟩,
      ⟨(some 59), none, .bin .leq (.t 58) (.c (.int .i64 2))⟩] [0, 5, 8, 10, 59])
  (.cond (.t 59)
    (.seq (.rg [⟨(some 60), none, .mv (.t 5)⟩,
        ⟨(some 61), none, .bin .and (.t 60) (.c (.int .u8 31))⟩,
        ⟨(some 62), none, .cvi .i32 (.t 61)⟩,
        ⟨(some 63), none, .bin .shl (.t 62) (.c (.int .u64 6))⟩,
        ⟨(some 64), none, .mv (.t 10)⟩,
        ⟨(some 65), none, .bin .and (.t 64) (.c (.int .u8 63))⟩,
        ⟨(some 66), none, .cvi .i32 (.t 65)⟩,
        ⟨(some 67), none, .bin .or (.t 63) (.t 66)⟩,
        ⟨(some 2), none, .mv (.t 67)⟩,
        ⟨(some 3), none, .mv (.c (.int .i64 2))⟩] [2, 3])
    .ret)
    .skip))
  (.seq (.rg [⟨(some 68), none, .mv (.t 0)⟩,
      ⟨(some 69), none, .ist (.t 68) (.c (.int .i64 2))⟩,
      ⟨(some 11), none, .mv (.t 69)⟩] [0, 5, 8, 10, 11])
  (.seq (.seq (.rg [⟨(some 70), none, .mv (.t 11)⟩,
      ⟨(some 71), none, .bin .lss (.t 70) (.c (.int .u8 128))⟩,
      ⟨(some 72), none, .mv (.t 71)⟩,
      ⟨(some 73), some (72, false), .mv (.t 11)⟩,
      ⟨(some 74), some (72, false), .bin .lss (.c (.int .u8 191)) (.t 73)⟩,
      ⟨(some 75), none, .pick (.t 72) (.c (.bool true)) (.t 74)⟩] [0, 5, 8, 10, 11, 75])
  (.cond (.t 75)
    (.seq (.rg [⟨(some 2), none, .mv (.c (.int .i32 65533))⟩,
        ⟨(some 3), none, .mv (.c (.int .i64 1))⟩] [2, 3])
    .ret)
    .skip))
  (.seq (.seq (.rg [⟨(some 76), none, .mv (.t 8)⟩,
      ⟨(some 77), none, .bin .leq (.t 76) (.c (.int .i64 3))⟩] [0, 5, 10, 11, 77])
  (.cond (.t 77)
    (.seq (.rg [⟨(some 78), none, .mv (.t 5)⟩,
        ⟨(some 79), none, .bin .and (.t 78) (.c (.int .u8 15))⟩,
        ⟨(some 80), none, .cvi .i32 (.t 79)⟩,
        ⟨(some 81), none, .bin .shl (.t 80) (.c (.int .u64 12))⟩,
        ⟨(some 82), none, .mv (.t 10)⟩,
        ⟨(some 83), none, .bin .and (.t 82) (.c (.int .u8 63))⟩,
        ⟨(some 84), none, .cvi .i32 (.t 83)⟩,
        ⟨(some 85), none, .bin .shl (.t 84) (.c (.int .u64 6))⟩,
        ⟨(some 86), none, .bin .or (.t 81) (.t 85)⟩,
        ⟨(some 87), none, .mv (.t 11)⟩,
        ⟨(some 88), none, .bin .and (.t 87) (.c (.int .u8 63))⟩,
        ⟨(some 89), none, .cvi .i32 (.t 88)⟩,
        ⟨(some 90), none, .bin .or (.t 86) (.t 89)⟩,
        ⟨(some 2), none, .mv (.t 90)⟩,
        ⟨(some 3), none, .mv (.c (.int .i64 3))⟩] [2, 3])
    .ret)
    .skip))
  (.seq (.rg [⟨(some 91), none, .mv (.t 0)⟩,
      ⟨(some 92), none, .ist (.t 91) (.c (.int .i64 3))⟩,
      ⟨(some 12), none, .mv (.t 92)⟩] [5, 10, 11, 12])
  (.seq (.seq (.rg [⟨(some 93), none, .mv (.t 12)⟩,
      ⟨(some 94), none, .bin .lss (.t 93) (.c (.int .u8 128))⟩,
      ⟨(some 95), none, .mv (.t 94)⟩,
      ⟨(some 96), some (95, false), .mv (.t 12)⟩,
      ⟨(some 97), some (95, false), .bin .lss (.c (.int .u8 191)) (.t 96)⟩,
      ⟨(some 98), none, .pick (.t 95) (.c (.bool true)) (.t 97)⟩] [5, 10, 11, 12, 98])
  (.cond (.t 98)
    (.seq (.rg [⟨(some 2), none, .mv (.c (.int .i32 65533))⟩,
        ⟨(some 3), none, .mv (.c (.int .i64 1))⟩] [2, 3])
    .ret)
    .skip))
  (.seq (.rg [⟨(some 99), none, .mv (.t 5)⟩,
      ⟨(some 100), none, .bin .and (.t 99) (.c (.int .u8 7))⟩,
      ⟨(some 101), none, .cvi .i32 (.t 100)⟩,
      ⟨(some 102), none, .bin .shl (.t 101) (.c (.int .u64 18))⟩,
      ⟨(some 103), none, .mv (.t 10)⟩,
      ⟨(some 104), none, .bin .and (.t 103) (.c (.int .u8 63))⟩,
      ⟨(some 105), none, .cvi .i32 (.t 104)⟩,
      ⟨(some 106), none, .bin .shl (.t 105) (.c (.int .u64 12))⟩,
      ⟨(some 107), none, .bin .or (.t 102) (.t 106)⟩,
      ⟨(some 108), none, .mv (.t 11)⟩,
      ⟨(some 109), none, .bin .and (.t 108) (.c (.int .u8 63))⟩,
      ⟨(some 110), none, .cvi .i32 (.t 109)⟩,
      ⟨(some 111), none, .bin .shl (.t 110) (.c (.int .u64 6))⟩,
      ⟨(some 112), none, .bin .or (.t 107) (.t 111)⟩,
      ⟨(some 113), none, .mv (.t 12)⟩,
      ⟨(some 114), none, .bin .and (.t 113) (.c (.int .u8 63))⟩,
      ⟨(some 115), none, .cvi .i32 (.t 114)⟩,
      ⟨(some 116), none, .bin .or (.t 112) (.t 115)⟩,
      ⟨(some 2), none, .mv (.t 116)⟩,
      ⟨(some 3), none, .mv (.c (.int .i64 4))⟩] [2, 3])
  .ret)))))))))))))))))),
  [.t 2, .t 3]⟩

/- unicode/utf8.RuneStart -/
def an42 : Ann := [[0], [2]]
def fn42 : Vs.Fn := ⟨1,
  (.seq (.rg [⟨(some 2), none, .mv (.c (.bool false))⟩] [0])
  (.seq (.rg [⟨(some 3), none, .mv (.t 0)⟩,
      ⟨(some 4), none, .bin .and (.t 3) (.c (.int .u8 192))⟩,
      ⟨(some 5), none, .bin .neq (.t 4) (.c (.int .u8 128))⟩,
      ⟨(some 2), none, .mv (.t 5)⟩] [2])
  .ret)),
  [.t 2]⟩

/- unicode/utf8.ValidRune -/
def an43 : Ann := [[0], [0, 3], [2], [10], [2], [2]]
def fn43 : Vs.Fn := ⟨1,
  (.seq (.rg [⟨(some 2), none, .mv (.c (.bool false))⟩] [0])
  (.seq (.block 0
    (.seq (.rg [⟨(some 4), none, .mv (.t 0)⟩,
        ⟨(some 5), none, .bin .leq (.c (.int .i32 0)) (.t 4)⟩,
        ⟨(some 6), none, .mv (.t 5)⟩,
        ⟨(some 7), some (6, true), .mv (.t 0)⟩,
        ⟨(some 8), some (6, true), .bin .lss (.t 7) (.c (.int .i32 55296))⟩,
        ⟨(some 9), none, .pick (.t 6) (.t 8) (.c (.bool false))⟩,
        ⟨(some 3), none, .mv (.t 9)⟩] [0, 3])
    (.cond (.t 3)
      (.seq (.rg [⟨(some 2), none, .mv (.c (.bool true))⟩] [2])
      .ret)
      (.seq (.rg [⟨(some 11), none, .mv (.t 0)⟩,
          ⟨(some 12), none, .bin .lss (.c (.int .i32 57343)) (.t 11)⟩,
          ⟨(some 13), none, .mv (.t 12)⟩,
          ⟨(some 14), some (13, true), .mv (.t 0)⟩,
          ⟨(some 15), some (13, true), .bin .leq (.t 14) (.c (.int .i32 1114111))⟩,
          ⟨(some 16), none, .pick (.t 13) (.t 15) (.c (.bool false))⟩,
          ⟨(some 10), none, .mv (.t 16)⟩] [10])
      (.cond (.t 10)
        (.seq (.rg [⟨(some 2), none, .mv (.c (.bool true))⟩] [2])
        .ret)
        .skip)))))
  (.seq (.rg [⟨(some 2), none, .mv (.c (.bool false))⟩] [2])
  .ret))),
  [.t 2]⟩

/- internal/bytealg.Cutover -/
def an44 : Ann := [[0], [2]]
def fn44 : Vs.Fn := ⟨1,
  (.seq (.rg [⟨(some 2), none, .mv (.c (.int .i64 0))⟩] [0])
  (.seq (.rg [⟨(some 3), none, .mv (.t 0)⟩,
      ⟨(some 4), none, .bin .add (.t 3) (.c (.int .i64 16))⟩,
      ⟨(some 5), none, .bin .quo (.t 4) (.c (.int .i64 8))⟩,
      ⟨(some 2), none, .mv (.t 5)⟩] [2])
  .ret)),
  [.t 2]⟩

def pg : Pg := fun f => match f with
  | 3 => some fn3
  | 4 => some fn4
  | 5 => some fn5
  | 6 => some fn6
  | 7 => some fn7
  | 8 => some fn8
  | 9 => some fn9
  | 10 => some fn10
  | 11 => some fn11
  | 12 => some fn12
  | 13 => some fn13
  | 14 => some fn14
  | 15 => some fn15
  | 16 => some fn16
  | 17 => some fn17
  | 18 => some fn18
  | 19 => some fn19
  | 20 => some fn20
  | 21 => some fn21
  | 22 => some fn22
  | 23 => some fn23
  | 24 => some fn24
  | 25 => some fn25
  | 26 => some fn26
  | 27 => some fn27
  | 28 => some fn28
  | 29 => some fn29
  | 30 => some fn30
  | 31 => some fn31
  | 32 => some fn32
  | 33 => some fn33
  | 34 => some fn34
  | 35 => some fn35
  | 36 => some fn36
  | 37 => some fn37
  | 38 => some fn38
  | 40 => some fn40
  | 42 => some fn42
  | 43 => some fn43
  | 44 => some fn44
  | _ => none

theorem cfn3 : cFn Tryd.prog an3 Tryd.f3 = some fn3 := by kernel_rfl
theorem cfn4 : cFn Tryd.prog an4 Tryd.f4 = some fn4 := by kernel_rfl
theorem cfn5 : cFn Tryd.prog an5 Tryd.f5 = some fn5 := by kernel_rfl
theorem cfn6 : cFn Tryd.prog an6 Tryd.f6 = some fn6 := by kernel_rfl
theorem cfn7 : cFn Tryd.prog an7 Tryd.f7 = some fn7 := by kernel_rfl
theorem cfn8 : cFn Tryd.prog an8 Tryd.f8 = some fn8 := by kernel_rfl
theorem cfn9 : cFn Tryd.prog an9 Tryd.f9 = some fn9 := by kernel_rfl
theorem cfn10 : cFn Tryd.prog an10 Tryd.f10 = some fn10 := by kernel_rfl
theorem cfn11 : cFn Tryd.prog an11 Tryd.f11 = some fn11 := by kernel_rfl
theorem cfn12 : cFn Tryd.prog an12 Tryd.f12 = some fn12 := by kernel_rfl
theorem cfn13 : cFn Tryd.prog an13 Tryd.f13 = some fn13 := by kernel_rfl
theorem cfn14 : cFn Tryd.prog an14 Tryd.f14 = some fn14 := by kernel_rfl
theorem cfn15 : cFn Tryd.prog an15 Tryd.f15 = some fn15 := by kernel_rfl
theorem cfn16 : cFn Tryd.prog an16 Tryd.f16 = some fn16 := by kernel_rfl
theorem cfn17 : cFn Tryd.prog an17 Tryd.f17 = some fn17 := by kernel_rfl
theorem cfn18 : cFn Tryd.prog an18 Tryd.f18 = some fn18 := by kernel_rfl
theorem cfn19 : cFn Tryd.prog an19 Tryd.f19 = some fn19 := by kernel_rfl
theorem cfn20 : cFn Tryd.prog an20 Tryd.f20 = some fn20 := by kernel_rfl
theorem cfn21 : cFn Tryd.prog an21 Tryd.f21 = some fn21 := by kernel_rfl
theorem cfn22 : cFn Tryd.prog an22 Tryd.f22 = some fn22 := by kernel_rfl
theorem cfn23 : cFn Tryd.prog an23 Tryd.f23 = some fn23 := by kernel_rfl
theorem cfn24 : cFn Tryd.prog an24 Tryd.f24 = some fn24 := by kernel_rfl
theorem cfn25 : cFn Tryd.prog an25 Tryd.f25 = some fn25 := by kernel_rfl
theorem cfn26 : cFn Tryd.prog an26 Tryd.f26 = some fn26 := by kernel_rfl
theorem cfn27 : cFn Tryd.prog an27 Tryd.f27 = some fn27 := by kernel_rfl
theorem cfn28 : cFn Tryd.prog an28 Tryd.f28 = some fn28 := by kernel_rfl
theorem cfn29 : cFn Tryd.prog an29 Tryd.f29 = some fn29 := by kernel_rfl
theorem cfn30 : cFn Tryd.prog an30 Tryd.f30 = some fn30 := by kernel_rfl
theorem cfn31 : cFn Tryd.prog an31 Tryd.f31 = some fn31 := by kernel_rfl
theorem cfn32 : cFn Tryd.prog an32 Tryd.f32 = some fn32 := by kernel_rfl
theorem cfn33 : cFn Tryd.prog an33 Tryd.f33 = some fn33 := by kernel_rfl
theorem cfn34 : cFn Tryd.prog an34 Tryd.f34 = some fn34 := by kernel_rfl
theorem cfn35 : cFn Tryd.prog an35 Tryd.f35 = some fn35 := by kernel_rfl
theorem cfn36 : cFn Tryd.prog an36 Tryd.f36 = some fn36 := by kernel_rfl
theorem cfn37 : cFn Tryd.prog an37 Tryd.f37 = some fn37 := by kernel_rfl
theorem cfn38 : cFn Tryd.prog an38 Tryd.f38 = some fn38 := by kernel_rfl
theorem cfn40 : cFn Tryd.prog an40 Tryd.f40 = some fn40 := by kernel_rfl
theorem cfn42 : cFn Tryd.prog an42 Tryd.f42 = some fn42 := by kernel_rfl
theorem cfn43 : cFn Tryd.prog an43 Tryd.f43 = some fn43 := by kernel_rfl
theorem cfn44 : cFn Tryd.prog an44 Tryd.f44 = some fn44 := by kernel_rfl

theorem pgOk : PgOk Tryd.prog pg := by
  intro f fn h
  unfold pg at h
  split at h
  · cases h; exact ⟨Tryd.f3, an3, Tryd.func3, of_decide_eq_true (by kernel_rfl), cfn3⟩
  · cases h; exact ⟨Tryd.f4, an4, Tryd.func4, of_decide_eq_true (by kernel_rfl), cfn4⟩
  · cases h; exact ⟨Tryd.f5, an5, Tryd.func5, of_decide_eq_true (by kernel_rfl), cfn5⟩
  · cases h; exact ⟨Tryd.f6, an6, Tryd.func6, of_decide_eq_true (by kernel_rfl), cfn6⟩
  · cases h; exact ⟨Tryd.f7, an7, Tryd.func7, of_decide_eq_true (by kernel_rfl), cfn7⟩
  · cases h; exact ⟨Tryd.f8, an8, Tryd.func8, of_decide_eq_true (by kernel_rfl), cfn8⟩
  · cases h; exact ⟨Tryd.f9, an9, Tryd.func9, of_decide_eq_true (by kernel_rfl), cfn9⟩
  · cases h; exact ⟨Tryd.f10, an10, Tryd.func10, of_decide_eq_true (by kernel_rfl), cfn10⟩
  · cases h; exact ⟨Tryd.f11, an11, Tryd.func11, of_decide_eq_true (by kernel_rfl), cfn11⟩
  · cases h; exact ⟨Tryd.f12, an12, Tryd.func12, of_decide_eq_true (by kernel_rfl), cfn12⟩
  · cases h; exact ⟨Tryd.f13, an13, Tryd.func13, of_decide_eq_true (by kernel_rfl), cfn13⟩
  · cases h; exact ⟨Tryd.f14, an14, Tryd.func14, of_decide_eq_true (by kernel_rfl), cfn14⟩
  · cases h; exact ⟨Tryd.f15, an15, Tryd.func15, of_decide_eq_true (by kernel_rfl), cfn15⟩
  · cases h; exact ⟨Tryd.f16, an16, Tryd.func16, of_decide_eq_true (by kernel_rfl), cfn16⟩
  · cases h; exact ⟨Tryd.f17, an17, Tryd.func17, of_decide_eq_true (by kernel_rfl), cfn17⟩
  · cases h; exact ⟨Tryd.f18, an18, Tryd.func18, of_decide_eq_true (by kernel_rfl), cfn18⟩
  · cases h; exact ⟨Tryd.f19, an19, Tryd.func19, of_decide_eq_true (by kernel_rfl), cfn19⟩
  · cases h; exact ⟨Tryd.f20, an20, Tryd.func20, of_decide_eq_true (by kernel_rfl), cfn20⟩
  · cases h; exact ⟨Tryd.f21, an21, Tryd.func21, of_decide_eq_true (by kernel_rfl), cfn21⟩
  · cases h; exact ⟨Tryd.f22, an22, Tryd.func22, of_decide_eq_true (by kernel_rfl), cfn22⟩
  · cases h; exact ⟨Tryd.f23, an23, Tryd.func23, of_decide_eq_true (by kernel_rfl), cfn23⟩
  · cases h; exact ⟨Tryd.f24, an24, Tryd.func24, of_decide_eq_true (by kernel_rfl), cfn24⟩
  · cases h; exact ⟨Tryd.f25, an25, Tryd.func25, of_decide_eq_true (by kernel_rfl), cfn25⟩
  · cases h; exact ⟨Tryd.f26, an26, Tryd.func26, of_decide_eq_true (by kernel_rfl), cfn26⟩
  · cases h; exact ⟨Tryd.f27, an27, Tryd.func27, of_decide_eq_true (by kernel_rfl), cfn27⟩
  · cases h; exact ⟨Tryd.f28, an28, Tryd.func28, of_decide_eq_true (by kernel_rfl), cfn28⟩
  · cases h; exact ⟨Tryd.f29, an29, Tryd.func29, of_decide_eq_true (by kernel_rfl), cfn29⟩
  · cases h; exact ⟨Tryd.f30, an30, Tryd.func30, of_decide_eq_true (by kernel_rfl), cfn30⟩
  · cases h; exact ⟨Tryd.f31, an31, Tryd.func31, of_decide_eq_true (by kernel_rfl), cfn31⟩
  · cases h; exact ⟨Tryd.f32, an32, Tryd.func32, of_decide_eq_true (by kernel_rfl), cfn32⟩
  · cases h; exact ⟨Tryd.f33, an33, Tryd.func33, of_decide_eq_true (by kernel_rfl), cfn33⟩
  · cases h; exact ⟨Tryd.f34, an34, Tryd.func34, of_decide_eq_true (by kernel_rfl), cfn34⟩
  · cases h; exact ⟨Tryd.f35, an35, Tryd.func35, of_decide_eq_true (by kernel_rfl), cfn35⟩
  · cases h; exact ⟨Tryd.f36, an36, Tryd.func36, of_decide_eq_true (by kernel_rfl), cfn36⟩
  · cases h; exact ⟨Tryd.f37, an37, Tryd.func37, of_decide_eq_true (by kernel_rfl), cfn37⟩
  · cases h; exact ⟨Tryd.f38, an38, Tryd.func38, of_decide_eq_true (by kernel_rfl), cfn38⟩
  · cases h; exact ⟨Tryd.f40, an40, Tryd.func40, of_decide_eq_true (by kernel_rfl), cfn40⟩
  · cases h; exact ⟨Tryd.f42, an42, Tryd.func42, of_decide_eq_true (by kernel_rfl), cfn42⟩
  · cases h; exact ⟨Tryd.f43, an43, Tryd.func43, of_decide_eq_true (by kernel_rfl), cfn43⟩
  · cases h; exact ⟨Tryd.f44, an44, Tryd.func44, of_decide_eq_true (by kernel_rfl), cfn44⟩
  · cases h
end Go.Proofs.YtpmgmepanbdfpaaDoor
