import Derived.Test.YtinmpfflkcnkfaaChecked
import Derived.Test.YtinmpfflkcnkfaaVsIns3
namespace Go.Proofs.Ytinmpfflkcnkfaa
open Go Go.Vs
set_option maxRecDepth 100000

/- spillway/spillwaylaw3.LabelReads -/
def an3 : Ann := [[0], [2], [0, 8], [2], [0, 11], [2], [2], [0, 3, 4], [2], [3, 4, 5, 6], [2], [2]]
def fn3 : Vs.Fn := ⟨1,
  (.seq (.rg [⟨(some 2), none, .mv (.c (.bool false))⟩] [0])
  (.seq (.seq (.rg [⟨(some 7), none, .call 2 (.f 12) []⟩,
      ⟨(some 8), none, .un .not (.t 7)⟩] [0, 8])
  (.cond (.t 8)
    (.seq (.rg [⟨(some 2), none, .mv (.c (.bool false))⟩] [2])
    .ret)
    .skip))
  (.seq (.seq (.rg [⟨(some 9), none, .mv (.t 0)⟩,
      ⟨(some 10), none, .len true (.t 9)⟩,
      ⟨(some 11), none, .bin .gtr (.t 10) (.c (.int .i64 500))⟩] [0, 11])
  (.cond (.t 11)
    (.seq (.rg [⟨(some 2), none, .mv (.c (.bool true))⟩] [2])
    .ret)
    .skip))
  (.seq (.rg [⟨(some 13), none, .mv (.t 0)⟩,
      ⟨(some 14), none, .call 2 (.f 13) [(.t 13)]⟩,
      ⟨(some 12), none, .mv (.t 14)⟩,
      ⟨(some 15), none, .ext (.t 12) 0⟩,
      ⟨(some 16), none, .ext (.t 12) 1⟩,
      ⟨(some 3), none, .mv (.t 15)⟩,
      ⟨(some 4), none, .mv (.t 16)⟩] [0, 3, 4])
  (.seq (.rg [⟨(some 18), none, .mv (.t 0)⟩,
      ⟨(some 19), none, .call 2 (.f 14) [(.t 18)]⟩,
      ⟨(some 17), none, .mv (.t 19)⟩,
      ⟨(some 20), none, .ext (.t 17) 0⟩,
      ⟨(some 21), none, .ext (.t 17) 1⟩,
      ⟨(some 5), none, .mv (.t 20)⟩,
      ⟨(some 6), none, .mv (.t 21)⟩] [3, 4, 5, 6])
  (.seq (.rg [⟨(some 22), none, .mv (.t 4)⟩,
      ⟨(some 23), none, .bin .eql (.t 22) (.c (.int .i64 0))⟩,
      ⟨(some 24), none, .mv (.t 6)⟩,
      ⟨(some 25), none, .eqb false (.t 23) (.t 24)⟩,
      ⟨(some 26), none, .mv (.t 25)⟩,
      ⟨(some 27), some (26, true), .mv (.t 4)⟩,
      ⟨(some 28), some (26, true), .bin .eql (.t 27) (.c (.int .i64 0))⟩,
      ⟨(some 29), some (26, true), .mv (.t 28)⟩,
      ⟨(some 30), some (29, false), .mv (.t 4)⟩,
      ⟨(some 31), some (29, false), .bin .eql (.t 30) (.c (.int .i64 30))⟩,
      ⟨(some 32), some (26, true), .pick (.t 29) (.c (.bool true)) (.t 31)⟩,
      ⟨(some 33), none, .pick (.t 26) (.t 32) (.c (.bool false))⟩,
      ⟨(some 34), none, .mv (.t 33)⟩,
      ⟨(some 35), some (34, true), .mv (.t 3)⟩,
      ⟨(some 36), some (34, true), .mv (.t 5)⟩,
      ⟨(some 37), some (34, true), .call 2 (.f 15) [(.t 35), (.t 36)]⟩,
      ⟨(some 38), none, .pick (.t 34) (.t 37) (.c (.bool false))⟩,
      ⟨(some 2), none, .mv (.t 38)⟩] [2])
  .ret)))))),
  [.t 2]⟩

/- spillway/spillwaylaw3.LabelBack -/
def an4 : Ann := [[0, 1], [2], [0, 1, 8], [4], [2], [2], [2], [2], [0, 1, 24], [4], [2], [2], [0, 1, 5, 6], [2], [2], [2], [2], [2], [2], [2], [2], [4]]
def fn4 : Vs.Fn := ⟨2,
  (.seq (.rg [⟨(some 4), none, .mv (.c (.bool false))⟩] [0, 1])
  (.seq (.seq (.rg [⟨(some 7), none, .call 2 (.f 12) []⟩,
      ⟨(some 8), none, .un .not (.t 7)⟩] [0, 1, 8])
  (.cond (.t 8)
    (.seq (.rg [⟨(some 4), none, .mv (.c (.bool false))⟩] [4])
    .ret)
    .skip))
  (.seq (.seq (.rg [⟨(some 9), none, .mv (.t 0)⟩,
      ⟨(some 10), none, .call 2 (.f 16) [(.t 9)]⟩,
      ⟨(some 11), none, .mv (.t 10)⟩,
      ⟨(some 12), some (11, false), .mv (.t 1)⟩,
      ⟨(some 13), some (11, false), .call 2 (.f 16) [(.t 12)]⟩,
      ⟨(some 14), none, .pick (.t 11) (.c (.bool true)) (.t 13)⟩,
      ⟨(some 15), none, .mv (.t 14)⟩,
      ⟨(some 16), some (15, false), .mv (.t 0)⟩,
      ⟨(some 17), some (15, false), .call 2 (.f 17) [(.t 16)]⟩,
      ⟨(some 18), some (15, false), .un .not (.t 17)⟩,
      ⟨(some 19), none, .pick (.t 15) (.c (.bool true)) (.t 18)⟩,
      ⟨(some 20), none, .mv (.t 19)⟩,
      ⟨(some 21), some (20, false), .mv (.t 1)⟩,
      ⟨(some 22), some (20, false), .call 2 (.f 17) [(.t 21)]⟩,
      ⟨(some 23), some (20, false), .un .not (.t 22)⟩,
      ⟨(some 24), none, .pick (.t 20) (.c (.bool true)) (.t 23)⟩] [0, 1, 24])
  (.cond (.t 24)
    (.seq (.rg [⟨(some 4), none, .mv (.c (.bool true))⟩] [4])
    .ret)
    .skip))
  (.seq (.rg [⟨(some 26), none, .mv (.t 0)⟩,
      ⟨(some 27), none, .call 2 (.f 18) [(.t 26)]⟩,
      ⟨(some 28), none, .call 2 (.f 13) [(.t 27)]⟩,
      ⟨(some 25), none, .mv (.t 28)⟩,
      ⟨(some 29), none, .ext (.t 25) 0⟩,
      ⟨(some 30), none, .ext (.t 25) 1⟩,
      ⟨(some 5), none, .mv (.t 29)⟩,
      ⟨(some 6), none, .mv (.t 30)⟩] [0, 1, 5, 6])
  (.seq (.rg [⟨(some 31), none, .mv (.t 6)⟩,
      ⟨(some 32), none, .bin .eql (.t 31) (.c (.int .i64 0))⟩,
      ⟨(some 33), none, .mv (.t 32)⟩,
      ⟨(some 34), some (33, true), .mv (.t 5)⟩,
      ⟨(some 35), some (33, true), .mv (.t 0)⟩,
      ⟨(some 36), some (33, true), .call 2 (.f 15) [(.t 34), (.t 35)]⟩,
      ⟨(some 37), none, .pick (.t 33) (.t 36) (.c (.bool false))⟩,
      ⟨(some 38), none, .mv (.t 37)⟩,
      ⟨(some 39), some (38, true), .mv (.t 0)⟩,
      ⟨(some 40), some (38, true), .call 2 (.f 18) [(.t 39)]⟩,
      ⟨(some 41), some (38, true), .mv (.t 1)⟩,
      ⟨(some 42), some (38, true), .call 2 (.f 18) [(.t 41)]⟩,
      ⟨(some 43), some (38, true), .bin .eql (.t 40) (.t 42)⟩,
      ⟨(some 44), some (38, true), .mv (.t 0)⟩,
      ⟨(some 45), some (38, true), .mv (.t 1)⟩,
      ⟨(some 46), some (38, true), .call 2 (.f 15) [(.t 44), (.t 45)]⟩,
      ⟨(some 47), some (38, true), .eqb false (.t 43) (.t 46)⟩,
      ⟨(some 48), none, .pick (.t 38) (.t 47) (.c (.bool false))⟩,
      ⟨(some 49), none, .mv (.t 48)⟩,
      ⟨(some 50), some (49, true), .mv (.t 0)⟩,
      ⟨(some 51), some (49, true), .mv (.t 1)⟩,
      ⟨(some 52), some (49, true), .call 2 (.f 19) [(.t 50), (.t 51)]⟩,
      ⟨(some 53), some (49, true), .bin .eql (.t 52) (.c (.int .i64 0))⟩,
      ⟨(some 54), some (49, true), .mv (.t 0)⟩,
      ⟨(some 55), some (49, true), .mv (.t 1)⟩,
      ⟨(some 56), some (49, true), .call 2 (.f 15) [(.t 54), (.t 55)]⟩,
      ⟨(some 57), some (49, true), .eqb false (.t 53) (.t 56)⟩,
      ⟨(some 58), none, .pick (.t 49) (.t 57) (.c (.bool false))⟩,
      ⟨(some 59), none, .mv (.t 58)⟩,
      ⟨(some 60), some (59, true), .mv (.t 0)⟩,
      ⟨(some 61), some (59, true), .mv (.t 1)⟩,
      ⟨(some 62), some (59, true), .call 2 (.f 19) [(.t 60), (.t 61)]⟩,
      ⟨(some 63), some (59, true), .mv (.t 1)⟩,
      ⟨(some 64), some (59, true), .mv (.t 0)⟩,
      ⟨(some 65), some (59, true), .call 2 (.f 19) [(.t 63), (.t 64)]⟩,
      ⟨(some 66), some (59, true), .un .neg (.t 65)⟩,
      ⟨(some 67), some (59, true), .bin .eql (.t 62) (.t 66)⟩,
      ⟨(some 68), none, .pick (.t 59) (.t 67) (.c (.bool false))⟩,
      ⟨(some 4), none, .mv (.t 68)⟩] [4])
  .ret))))),
  [.t 4]⟩

/- spillway/spillwaylaw3.LabelBounds -/
def an5 : Ann := [[0, 1, 2], [2], [0, 1, 2, 22], [6], [7, 8, 9], [7, 8, 9, 10], [7, 8, 9, 10, 11], [7, 8, 9, 10, 11], [7, 8, 9, 10, 11, 34], [7, 8, 9, 10, 11], [7, 8, 9, 10, 11], [1], [7, 8, 9, 12, 13], [7, 8, 9, 12, 13, 14, 15], [7, 8, 9, 12, 13, 14, 15, 16], [7, 8, 9, 12, 13, 14, 15, 16], [7, 8, 9, 12, 13, 14, 15, 16, 53], [7, 8, 9, 12, 13, 14, 15, 16], [7, 8, 9, 12, 13, 14, 15, 16], [7, 8, 9, 12, 13, 14, 15, 17], [7, 8, 9, 12, 13, 14, 15, 17], [7, 8, 9, 12, 13, 14, 15, 17, 60], [7, 8, 9, 12, 13, 14, 15, 17], [7, 8, 9, 12, 13, 14, 15, 17], [1], [7, 8, 9, 12, 13, 14, 18, 19], [7, 8, 9, 12, 13, 14, 18, 19, 20], [2], [6]]
def fn5B0 : Cd :=
  (.seq (.seq (.rg [⟨(some 32), none, .mv (.t 11)⟩,
      ⟨(some 33), none, .mv (.t 7)⟩,
      ⟨(some 34), none, .bin .lss (.t 32) (.t 33)⟩] [7, 8, 9, 10, 11, 34])
  (.cond (.t 34)
    .skip
    (.exit 0)))
  (.seq (.block 1
    (.rg [⟨(some 37), none, .mv (.t 10)⟩,
        ⟨(some 38), none, .mv (.t 11)⟩,
        ⟨(some 39), none, .cvi .u8 (.t 38)⟩,
        ⟨(some 40), none, .bin .add (.c (.int .u8 97)) (.t 39)⟩,
        ⟨(some 41), none, .bslice 1 1 [(.int .u8 0)] [(0, (.t 40))]⟩,
        ⟨(some 42), none, .cvbs (.t 41)⟩,
        ⟨(some 43), none, .build [(.str ⟨#[]⟩), (.str ⟨#[]⟩)] [(0, 1, (.t 42)), (1, 1, (.c (.string ⟨#[120]⟩)))]⟩,
        ⟨(some 44), none, .bslice 1 2 [(.str ⟨#[]⟩), (.str ⟨#[]⟩)] [(0, (.t 43))]⟩,
        ⟨(some 45), none, .app 2 32 (.t 37) (.t 44)⟩,
        ⟨(some 10), none, .mv (.t 45)⟩] [7, 8, 9, 10, 11]))
  (.rg [⟨(some 35), none, .mv (.t 11)⟩,
      ⟨(some 36), none, .bin .add (.t 35) (.c (.int .i64 1))⟩,
      ⟨(some 11), none, .mv (.t 36)⟩] [7, 8, 9, 10, 11])))
def fn5L0 : Cd := .loop [7, 8, 9, 10, 11] fn5B0
def fn5B1 : Cd :=
  (.seq (.seq (.rg [⟨(some 51), none, .mv (.t 16)⟩,
      ⟨(some 52), none, .mv (.t 8)⟩,
      ⟨(some 53), none, .bin .lss (.t 51) (.t 52)⟩] [7, 8, 9, 12, 13, 14, 15, 16, 53])
  (.cond (.t 53)
    .skip
    (.exit 2)))
  (.seq (.block 3
    (.rg [⟨(some 56), none, .mv (.t 14)⟩,
        ⟨(some 57), none, .bin .add (.t 56) (.c (.string ⟨#[113]⟩))⟩,
        ⟨(some 14), none, .mv (.t 57)⟩] [7, 8, 9, 12, 13, 14, 15, 16]))
  (.rg [⟨(some 54), none, .mv (.t 16)⟩,
      ⟨(some 55), none, .bin .add (.t 54) (.c (.int .i64 1))⟩,
      ⟨(some 16), none, .mv (.t 55)⟩] [7, 8, 9, 12, 13, 14, 15, 16])))
def fn5L1 : Cd := .loop [7, 8, 9, 12, 13, 14, 15, 16] fn5B1
def fn5B2 : Cd :=
  (.seq (.seq (.rg [⟨(some 58), none, .mv (.t 17)⟩,
      ⟨(some 59), none, .mv (.t 9)⟩,
      ⟨(some 60), none, .bin .lss (.t 58) (.t 59)⟩] [7, 8, 9, 12, 13, 14, 15, 17, 60])
  (.cond (.t 60)
    .skip
    (.exit 4)))
  (.seq (.block 5
    (.rg [⟨(some 63), none, .mv (.t 15)⟩,
        ⟨(some 64), none, .bin .add (.t 63) (.c (.string ⟨#[119]⟩))⟩,
        ⟨(some 15), none, .mv (.t 64)⟩] [7, 8, 9, 12, 13, 14, 15, 17]))
  (.rg [⟨(some 61), none, .mv (.t 17)⟩,
      ⟨(some 62), none, .bin .add (.t 61) (.c (.int .i64 1))⟩,
      ⟨(some 17), none, .mv (.t 62)⟩] [7, 8, 9, 12, 13, 14, 15, 17])))
def fn5L2 : Cd := .loop [7, 8, 9, 12, 13, 14, 15, 17] fn5B2
def fn5 : Vs.Fn := ⟨3,
  (.seq (.rg [⟨(some 6), none, .mv (.c (.bool false))⟩] [0, 1, 2])
  (.seq (.seq (.rg [⟨(some 21), none, .call 2 (.f 12) []⟩,
      ⟨(some 22), none, .un .not (.t 21)⟩] [0, 1, 2, 22])
  (.cond (.t 22)
    (.seq (.rg [⟨(some 6), none, .mv (.c (.bool false))⟩] [6])
    .ret)
    .skip))
  (.seq (.rg [⟨(some 23), none, .mv (.t 0)⟩,
      ⟨(some 24), none, .bin .rem (.t 23) (.c (.int .u8 12))⟩,
      ⟨(some 25), none, .cvi .i64 (.t 24)⟩,
      ⟨(some 26), none, .mv (.t 1)⟩,
      ⟨(some 27), none, .bin .rem (.t 26) (.c (.int .u8 25))⟩,
      ⟨(some 28), none, .cvi .i64 (.t 27)⟩,
      ⟨(some 29), none, .mv (.t 2)⟩,
      ⟨(some 30), none, .bin .rem (.t 29) (.c (.int .u8 35))⟩,
      ⟨(some 31), none, .cvi .i64 (.t 30)⟩,
      ⟨(some 7), none, .mv (.t 25)⟩,
      ⟨(some 8), none, .mv (.t 28)⟩,
      ⟨(some 9), none, .mv (.t 31)⟩] [7, 8, 9])
  (.seq (.rg [⟨(some 10), none, .mv (.c (.slice none 0 0))⟩] [7, 8, 9, 10])
  (.seq (.seq (.rg [⟨(some 11), none, .mv (.c (.int .i64 0))⟩] [7, 8, 9, 10, 11])
  (.block 0
    fn5L0))
  (.seq (.rg [⟨(some 47), none, .mv (.t 10)⟩,
      ⟨(some 48), none, .call 1 (.f 20) [(.t 47)]⟩,
      ⟨(some 46), none, .mv (.t 48)⟩,
      ⟨(some 49), none, .ext (.t 46) 0⟩,
      ⟨(some 50), none, .ext (.t 46) 1⟩,
      ⟨(some 12), none, .mv (.t 49)⟩,
      ⟨(some 13), none, .mv (.t 50)⟩] [7, 8, 9, 12, 13])
  (.seq (.rg [⟨(some 14), none, .mv (.c (.string ⟨#[]⟩))⟩,
      ⟨(some 15), none, .mv (.c (.string ⟨#[]⟩))⟩] [7, 8, 9, 12, 13, 14, 15])
  (.seq (.seq (.rg [⟨(some 16), none, .mv (.c (.int .i64 0))⟩] [7, 8, 9, 12, 13, 14, 15, 16])
  (.block 2
    fn5L1))
  (.seq (.seq (.rg [⟨(some 17), none, .mv (.c (.int .i64 0))⟩] [7, 8, 9, 12, 13, 14, 15, 17])
  (.block 4
    fn5L2))
  (.seq (.rg [⟨(some 66), none, .mv (.t 14)⟩,
      ⟨(some 67), none, .mv (.t 15)⟩,
      ⟨(some 68), none, .build [(.str ⟨#[]⟩), (.str ⟨#[]⟩)] [(0, 1, (.t 66)), (1, 1, (.t 67))]⟩,
      ⟨(some 69), none, .bslice 1 2 [(.str ⟨#[]⟩), (.str ⟨#[]⟩)] [(0, (.t 68))]⟩,
      ⟨(some 70), none, .call 1 (.f 20) [(.t 69)]⟩,
      ⟨(some 65), none, .mv (.t 70)⟩,
      ⟨(some 71), none, .ext (.t 65) 0⟩,
      ⟨(some 72), none, .ext (.t 65) 1⟩,
      ⟨(some 18), none, .mv (.t 71)⟩,
      ⟨(some 19), none, .mv (.t 72)⟩] [7, 8, 9, 12, 13, 14, 18, 19])
  (.seq (.rg [⟨(some 73), none, .mv (.t 9)⟩,
      ⟨(some 74), none, .bin .eql (.t 73) (.c (.int .i64 0))⟩,
      ⟨(some 75), none, .mv (.t 74)⟩,
      ⟨(some 76), some (75, false), .mv (.t 8)⟩,
      ⟨(some 77), some (75, false), .bin .geq (.t 76) (.c (.int .i64 1))⟩,
      ⟨(some 78), some (75, false), .mv (.t 77)⟩,
      ⟨(some 79), some (78, true), .mv (.t 8)⟩,
      ⟨(some 80), some (78, true), .bin .leq (.t 79) (.c (.int .i64 20))⟩,
      ⟨(some 81), some (75, false), .pick (.t 78) (.t 80) (.c (.bool false))⟩,
      ⟨(some 82), some (75, false), .mv (.t 81)⟩,
      ⟨(some 83), some (82, true), .mv (.t 9)⟩,
      ⟨(some 84), some (82, true), .bin .leq (.t 83) (.c (.int .i64 30))⟩,
      ⟨(some 85), some (75, false), .pick (.t 82) (.t 84) (.c (.bool false))⟩,
      ⟨(some 86), none, .pick (.t 75) (.c (.bool true)) (.t 85)⟩,
      ⟨(some 20), none, .mv (.t 86)⟩] [7, 8, 9, 12, 13, 14, 18, 19, 20])
  (.seq (.rg [⟨(some 87), none, .mv (.t 13)⟩,
      ⟨(some 88), none, .bin .eql (.t 87) (.c (.int .i64 0))⟩,
      ⟨(some 89), none, .mv (.t 7)⟩,
      ⟨(some 90), none, .bin .leq (.t 89) (.c (.int .i64 8))⟩,
      ⟨(some 91), none, .eqb false (.t 88) (.t 90)⟩,
      ⟨(some 92), none, .mv (.t 91)⟩,
      ⟨(some 93), some (92, true), .mv (.t 13)⟩,
      ⟨(some 94), some (92, true), .bin .neq (.t 93) (.c (.int .i64 0))⟩,
      ⟨(some 95), some (92, true), .mv (.t 94)⟩,
      ⟨(some 96), some (95, false), .mv (.t 12)⟩,
      ⟨(some 97), some (95, false), .len false (.t 96)⟩,
      ⟨(some 98), some (95, false), .mv (.t 7)⟩,
      ⟨(some 99), some (95, false), .bin .eql (.t 97) (.t 98)⟩,
      ⟨(some 100), some (92, true), .pick (.t 95) (.c (.bool true)) (.t 99)⟩,
      ⟨(some 101), none, .pick (.t 92) (.t 100) (.c (.bool false))⟩,
      ⟨(some 102), none, .mv (.t 101)⟩,
      ⟨(some 103), some (102, true), .mv (.t 19)⟩,
      ⟨(some 104), some (102, true), .bin .eql (.t 103) (.c (.int .i64 0))⟩,
      ⟨(some 105), some (102, true), .mv (.t 20)⟩,
      ⟨(some 106), some (102, true), .eqb false (.t 104) (.t 105)⟩,
      ⟨(some 107), none, .pick (.t 102) (.t 106) (.c (.bool false))⟩,
      ⟨(some 108), none, .mv (.t 107)⟩,
      ⟨(some 109), some (108, true), .mv (.t 19)⟩,
      ⟨(some 110), some (108, true), .bin .neq (.t 109) (.c (.int .i64 0))⟩,
      ⟨(some 111), some (108, true), .mv (.t 110)⟩,
      ⟨(some 112), some (111, false), .mv (.t 18)⟩,
      ⟨(some 113), some (111, false), .len false (.t 112)⟩,
      ⟨(some 114), some (111, false), .mv (.t 9)⟩,
      ⟨(some 115), some (111, false), .mn [(.t 114), (.c (.int .i64 1))]⟩,
      ⟨(some 116), some (111, false), .bin .eql (.t 113) (.t 115)⟩,
      ⟨(some 117), some (108, true), .pick (.t 111) (.c (.bool true)) (.t 116)⟩,
      ⟨(some 118), none, .pick (.t 108) (.t 117) (.c (.bool false))⟩,
      ⟨(some 119), none, .mv (.t 118)⟩,
      ⟨(some 120), some (119, true), .mv (.t 14)⟩,
      ⟨(some 121), some (119, true), .call 2 (.f 21) [(.t 120)]⟩,
      ⟨(some 122), some (119, true), .mv (.t 8)⟩,
      ⟨(some 123), some (119, true), .bin .geq (.t 122) (.c (.int .i64 1))⟩,
      ⟨(some 124), some (119, true), .mv (.t 123)⟩,
      ⟨(some 125), some (124, true), .mv (.t 8)⟩,
      ⟨(some 126), some (124, true), .bin .leq (.t 125) (.c (.int .i64 20))⟩,
      ⟨(some 127), some (119, true), .pick (.t 124) (.t 126) (.c (.bool false))⟩,
      ⟨(some 128), some (119, true), .eqb false (.t 121) (.t 127)⟩,
      ⟨(some 129), none, .pick (.t 119) (.t 128) (.c (.bool false))⟩,
      ⟨(some 6), none, .mv (.t 129)⟩] [6])
  .ret)))))))))))),
  [.t 6]⟩

/- spillway/spillwaylaw3.LabelSorted -/
def an6 : Ann := [[0, 1], [2], [0, 1, 12], [4], [2], [0, 1, 19], [4], [0, 5], [1], [0, 5, 6, 7], [1], [0, 6, 7, 8, 9], [2], [0, 6, 7, 50], [4], [0, 6, 7, 10], [0, 6, 7, 10], [0, 6, 7, 10, 58], [2], [0, 6, 7, 10, 73], [4], [0, 6, 7, 10], [2], [4]]
def fn6B0 : Cd :=
  (.seq (.seq (.rg [⟨(some 51), none, .mv (.t 10)⟩,
      ⟨(some 52), none, .mv (.t 0)⟩,
      ⟨(some 53), none, .len false (.t 52)⟩,
      ⟨(some 54), none, .bin .lss (.t 51) (.t 53)⟩,
      ⟨(some 55), none, .mv (.t 54)⟩,
      ⟨(some 56), some (55, true), .mv (.t 7)⟩,
      ⟨(some 57), some (55, true), .bin .eql (.t 56) (.c (.int .i64 0))⟩,
      ⟨(some 58), none, .pick (.t 55) (.t 57) (.c (.bool false))⟩] [0, 6, 7, 10, 58])
  (.cond (.t 58)
    .skip
    (.exit 0)))
  (.seq (.block 1
    (.seq (.rg [⟨(some 61), none, .mv (.t 6)⟩,
        ⟨(some 62), none, .mv (.t 0)⟩,
        ⟨(some 63), none, .mv (.t 10)⟩,
        ⟨(some 64), none, .iad 2 (.t 62) (.t 63)⟩,
        ⟨(some 65), none, .fad 0 (.t 64)⟩,
        ⟨(some 66), none, .load false 1 (.t 65) false⟩,
        ⟨(some 67), none, .call 2 (.f 22) [(.t 61), (.t 66)]⟩,
        ⟨(some 68), none, .mv (.t 0)⟩,
        ⟨(some 69), none, .mv (.t 10)⟩,
        ⟨(some 70), none, .iad 2 (.t 68) (.t 69)⟩,
        ⟨(some 71), none, .fad 1 (.t 70)⟩,
        ⟨(some 72), none, .load false 1 (.t 71) false⟩,
        ⟨(some 73), none, .bin .neq (.t 67) (.t 72)⟩] [0, 6, 7, 10, 73])
    (.cond (.t 73)
      (.seq (.rg [⟨(some 4), none, .mv (.c (.bool false))⟩] [4])
      .ret)
      .skip)))
  (.rg [⟨(some 59), none, .mv (.t 10)⟩,
      ⟨(some 60), none, .bin .add (.t 59) (.c (.int .i64 1))⟩,
      ⟨(some 10), none, .mv (.t 60)⟩] [0, 6, 7, 10])))
def fn6L0 : Cd := .loop [0, 6, 7, 10] fn6B0
def fn6 : Vs.Fn := ⟨2,
  (.seq (.rg [⟨(some 4), none, .mv (.c (.bool false))⟩] [0, 1])
  (.seq (.seq (.rg [⟨(some 11), none, .call 2 (.f 12) []⟩,
      ⟨(some 12), none, .un .not (.t 11)⟩] [0, 1, 12])
  (.cond (.t 12)
    (.seq (.rg [⟨(some 4), none, .mv (.c (.bool false))⟩] [4])
    .ret)
    .skip))
  (.seq (.seq (.rg [⟨(some 13), none, .mv (.t 0)⟩,
      ⟨(some 14), none, .call 2 (.f 16) [(.t 13)]⟩,
      ⟨(some 15), none, .mv (.t 14)⟩,
      ⟨(some 16), some (15, false), .mv (.t 0)⟩,
      ⟨(some 17), some (15, false), .len false (.t 16)⟩,
      ⟨(some 18), some (15, false), .bin .eql (.t 17) (.c (.int .i64 0))⟩,
      ⟨(some 19), none, .pick (.t 15) (.c (.bool true)) (.t 18)⟩] [0, 1, 19])
  (.cond (.t 19)
    (.seq (.rg [⟨(some 4), none, .mv (.c (.bool true))⟩] [4])
    .ret)
    .skip))
  (.seq (.rg [⟨(some 20), none, .mv (.t 1)⟩,
      ⟨(some 21), none, .cvi .i64 (.t 20)⟩,
      ⟨(some 22), none, .mv (.t 0)⟩,
      ⟨(some 23), none, .len false (.t 22)⟩,
      ⟨(some 24), none, .bin .rem (.t 21) (.t 23)⟩,
      ⟨(some 5), none, .mv (.t 24)⟩] [0, 5])
  (.seq (.rg [⟨(some 26), none, .mv (.t 0)⟩,
      ⟨(some 27), none, .call 1 (.f 20) [(.t 26)]⟩,
      ⟨(some 25), none, .mv (.t 27)⟩,
      ⟨(some 28), none, .ext (.t 25) 0⟩,
      ⟨(some 29), none, .ext (.t 25) 1⟩,
      ⟨(some 6), none, .mv (.t 28)⟩,
      ⟨(some 7), none, .mv (.t 29)⟩] [0, 5, 6, 7])
  (.seq (.rg [⟨(some 31), none, .mv (.t 0)⟩,
      ⟨(some 32), none, .mv (.t 5)⟩,
      ⟨(some 33), none, .slsl 2 (.t 31) (some (.t 32)) none none⟩,
      ⟨(some 34), none, .apn 2 32 (.t 33)⟩,
      ⟨(some 35), none, .mv (.t 0)⟩,
      ⟨(some 36), none, .mv (.t 5)⟩,
      ⟨(some 37), none, .slsl 2 (.t 35) none (some (.t 36)) none⟩,
      ⟨(some 38), none, .app 2 32 (.t 34) (.t 37)⟩,
      ⟨(some 39), none, .call 1 (.f 20) [(.t 38)]⟩,
      ⟨(some 30), none, .mv (.t 39)⟩,
      ⟨(some 40), none, .ext (.t 30) 0⟩,
      ⟨(some 41), none, .ext (.t 30) 1⟩,
      ⟨(some 8), none, .mv (.t 40)⟩,
      ⟨(some 9), none, .mv (.t 41)⟩] [0, 6, 7, 8, 9])
  (.seq (.seq (.rg [⟨(some 42), none, .mv (.t 7)⟩,
      ⟨(some 43), none, .mv (.t 9)⟩,
      ⟨(some 44), none, .bin .neq (.t 42) (.t 43)⟩,
      ⟨(some 45), none, .mv (.t 44)⟩,
      ⟨(some 46), some (45, false), .mv (.t 6)⟩,
      ⟨(some 47), some (45, false), .mv (.t 8)⟩,
      ⟨(some 48), some (45, false), .call 2 (.f 15) [(.t 46), (.t 47)]⟩,
      ⟨(some 49), some (45, false), .un .not (.t 48)⟩,
      ⟨(some 50), none, .pick (.t 45) (.c (.bool true)) (.t 49)⟩] [0, 6, 7, 50])
  (.cond (.t 50)
    (.seq (.rg [⟨(some 4), none, .mv (.c (.bool false))⟩] [4])
    .ret)
    .skip))
  (.seq (.seq (.rg [⟨(some 10), none, .mv (.c (.int .i64 0))⟩] [0, 6, 7, 10])
  (.block 0
    fn6L0))
  (.seq (.rg [⟨(some 74), none, .mv (.t 7)⟩,
      ⟨(some 75), none, .bin .neq (.t 74) (.c (.int .i64 0))⟩,
      ⟨(some 76), none, .mv (.t 75)⟩,
      ⟨(some 77), some (76, false), .mv (.t 6)⟩,
      ⟨(some 78), some (76, false), .call 2 (.f 17) [(.t 77)]⟩,
      ⟨(some 79), none, .pick (.t 76) (.c (.bool true)) (.t 78)⟩,
      ⟨(some 4), none, .mv (.t 79)⟩] [4])
  .ret))))))))),
  [.t 4]⟩

/- spillway/spillwaylaw3.LabelCmp -/
def an7 : Ann := [[0, 1, 2, 3], [2], [0, 1, 2, 3, 12], [8], [2], [2], [2], [0, 1, 2, 3, 22], [8], [0, 1, 2, 9], [0, 1, 2, 9, 10], [0, 1, 2, 9, 10, 32], [0, 1, 2, 9, 10], [2], [2], [2], [2], [2], [2], [2], [8]]
def fn7 : Vs.Fn := ⟨4,
  (.seq (.rg [⟨(some 8), none, .mv (.c (.bool false))⟩] [0, 1, 2, 3])
  (.seq (.seq (.rg [⟨(some 11), none, .call 2 (.f 12) []⟩,
      ⟨(some 12), none, .un .not (.t 11)⟩] [0, 1, 2, 3, 12])
  (.cond (.t 12)
    (.seq (.rg [⟨(some 8), none, .mv (.c (.bool false))⟩] [8])
    .ret)
    .skip))
  (.seq (.seq (.rg [⟨(some 13), none, .mv (.t 0)⟩,
      ⟨(some 14), none, .call 2 (.f 16) [(.t 13)]⟩,
      ⟨(some 15), none, .mv (.t 14)⟩,
      ⟨(some 16), some (15, false), .mv (.t 1)⟩,
      ⟨(some 17), some (15, false), .call 2 (.f 16) [(.t 16)]⟩,
      ⟨(some 18), none, .pick (.t 15) (.c (.bool true)) (.t 17)⟩,
      ⟨(some 19), none, .mv (.t 18)⟩,
      ⟨(some 20), some (19, false), .mv (.t 2)⟩,
      ⟨(some 21), some (19, false), .call 2 (.f 16) [(.t 20)]⟩,
      ⟨(some 22), none, .pick (.t 19) (.c (.bool true)) (.t 21)⟩] [0, 1, 2, 3, 22])
  (.cond (.t 22)
    (.seq (.rg [⟨(some 8), none, .mv (.c (.bool true))⟩] [8])
    .ret)
    .skip))
  (.seq (.rg [⟨(some 23), none, .mv (.t 3)⟩,
      ⟨(some 24), none, .cvi .i64 (.t 23)⟩,
      ⟨(some 25), none, .mv (.t 0)⟩,
      ⟨(some 26), none, .len false (.t 25)⟩,
      ⟨(some 27), none, .bin .add (.t 26) (.c (.int .i64 1))⟩,
      ⟨(some 28), none, .bin .rem (.t 24) (.t 27)⟩,
      ⟨(some 9), none, .mv (.t 28)⟩] [0, 1, 2, 9])
  (.seq (.rg [⟨(some 10), none, .mv (.c (.int .i64 0))⟩] [0, 1, 2, 9, 10])
  (.seq (.seq (.rg [⟨(some 29), none, .mv (.t 9)⟩,
      ⟨(some 30), none, .mv (.t 0)⟩,
      ⟨(some 31), none, .len false (.t 30)⟩,
      ⟨(some 32), none, .bin .lss (.t 29) (.t 31)⟩] [0, 1, 2, 9, 10, 32])
  (.cond (.t 32)
    (.rg [⟨(some 10), none, .mv (.c (.int .i64 (-1)))⟩] [0, 1, 2, 9, 10])
    .skip))
  (.seq (.rg [⟨(some 33), none, .mv (.t 0)⟩,
      ⟨(some 34), none, .mv (.t 0)⟩,
      ⟨(some 35), none, .call 2 (.f 19) [(.t 33), (.t 34)]⟩,
      ⟨(some 36), none, .bin .eql (.t 35) (.c (.int .i64 0))⟩,
      ⟨(some 37), none, .mv (.t 36)⟩,
      ⟨(some 38), some (37, true), .mv (.t 0)⟩,
      ⟨(some 39), some (37, true), .mv (.t 1)⟩,
      ⟨(some 40), some (37, true), .call 2 (.f 19) [(.t 38), (.t 39)]⟩,
      ⟨(some 41), some (37, true), .mv (.t 1)⟩,
      ⟨(some 42), some (37, true), .mv (.t 0)⟩,
      ⟨(some 43), some (37, true), .call 2 (.f 19) [(.t 41), (.t 42)]⟩,
      ⟨(some 44), some (37, true), .un .neg (.t 43)⟩,
      ⟨(some 45), some (37, true), .bin .eql (.t 40) (.t 44)⟩,
      ⟨(some 46), none, .pick (.t 37) (.t 45) (.c (.bool false))⟩,
      ⟨(some 47), none, .mv (.t 46)⟩,
      ⟨(some 48), some (47, true), .mv (.t 0)⟩,
      ⟨(some 49), some (47, true), .mv (.t 1)⟩,
      ⟨(some 50), some (47, true), .call 2 (.f 19) [(.t 48), (.t 49)]⟩,
      ⟨(some 51), some (47, true), .bin .gtr (.t 50) (.c (.int .i64 0))⟩,
      ⟨(some 52), some (47, true), .mv (.t 51)⟩,
      ⟨(some 53), some (52, false), .mv (.t 1)⟩,
      ⟨(some 54), some (52, false), .mv (.t 2)⟩,
      ⟨(some 55), some (52, false), .call 2 (.f 19) [(.t 53), (.t 54)]⟩,
      ⟨(some 56), some (52, false), .bin .gtr (.t 55) (.c (.int .i64 0))⟩,
      ⟨(some 57), some (47, true), .pick (.t 52) (.c (.bool true)) (.t 56)⟩,
      ⟨(some 58), some (47, true), .mv (.t 57)⟩,
      ⟨(some 59), some (58, false), .mv (.t 0)⟩,
      ⟨(some 60), some (58, false), .mv (.t 2)⟩,
      ⟨(some 61), some (58, false), .call 2 (.f 19) [(.t 59), (.t 60)]⟩,
      ⟨(some 62), some (58, false), .bin .leq (.t 61) (.c (.int .i64 0))⟩,
      ⟨(some 63), some (47, true), .pick (.t 58) (.c (.bool true)) (.t 62)⟩,
      ⟨(some 64), none, .pick (.t 47) (.t 63) (.c (.bool false))⟩,
      ⟨(some 65), none, .mv (.t 64)⟩,
      ⟨(some 66), some (65, true), .mv (.t 0)⟩,
      ⟨(some 67), some (65, true), .mv (.t 9)⟩,
      ⟨(some 68), some (65, true), .slsl 2 (.t 66) none (some (.t 67)) none⟩,
      ⟨(some 69), some (65, true), .mv (.t 0)⟩,
      ⟨(some 70), some (65, true), .call 2 (.f 19) [(.t 68), (.t 69)]⟩,
      ⟨(some 71), some (65, true), .mv (.t 10)⟩,
      ⟨(some 72), some (65, true), .bin .eql (.t 70) (.t 71)⟩,
      ⟨(some 73), none, .pick (.t 65) (.t 72) (.c (.bool false))⟩,
      ⟨(some 8), none, .mv (.t 73)⟩] [8])
  .ret))))))),
  [.t 8]⟩

/- spillway/spillwaylaw3.LabelQuotes -/
def an8 : Ann := [[0, 1], [2], [0, 1, 17], [4], [1], [0, 1, 5, 6], [5, 43], [4], [2], [5, 7], [2], [5, 7, 8, 9], [2], [5, 7, 8, 9, 11], [2], [5, 7, 8, 9, 11, 13], [2], [5, 7, 8, 9, 11, 13, 15], [2], [4]]
def fn8 : Vs.Fn := ⟨2,
  (.seq (.rg [⟨(some 4), none, .mv (.c (.bool false))⟩] [0, 1])
  (.seq (.seq (.rg [⟨(some 16), none, .call 2 (.f 12) []⟩,
      ⟨(some 17), none, .un .not (.t 16)⟩] [0, 1, 17])
  (.cond (.t 17)
    (.seq (.rg [⟨(some 4), none, .mv (.c (.bool false))⟩] [4])
    .ret)
    .skip))
  (.seq (.rg [⟨(some 19), none, .mv (.t 0)⟩,
      ⟨(some 20), none, .build [(.str ⟨#[]⟩), (.str ⟨#[]⟩)] [(0, 1, (.c (.string ⟨#[97]⟩))), (1, 1, (.t 19))]⟩,
      ⟨(some 21), none, .mv (.t 1)⟩,
      ⟨(some 22), none, .build [(.str ⟨#[]⟩), (.str ⟨#[]⟩)] [(0, 1, (.c (.string ⟨#[98]⟩))), (1, 1, (.t 21))]⟩,
      ⟨(some 23), none, .bslice 2 2 [(.str ⟨#[]⟩), (.str ⟨#[]⟩)] [(0, (.t 20)), (1, (.t 22))]⟩,
      ⟨(some 24), none, .call 1 (.f 20) [(.t 23)]⟩,
      ⟨(some 18), none, .mv (.t 24)⟩,
      ⟨(some 25), none, .ext (.t 18) 0⟩,
      ⟨(some 26), none, .ext (.t 18) 1⟩,
      ⟨(some 5), none, .mv (.t 25)⟩,
      ⟨(some 6), none, .mv (.t 26)⟩] [0, 1, 5, 6])
  (.seq (.seq (.rg [⟨(some 27), none, .mv (.t 0)⟩,
      ⟨(some 28), none, .len true (.t 27)⟩,
      ⟨(some 29), none, .bin .gtr (.t 28) (.c (.int .i64 100))⟩,
      ⟨(some 30), none, .mv (.t 29)⟩,
      ⟨(some 31), some (30, false), .mv (.t 1)⟩,
      ⟨(some 32), some (30, false), .len true (.t 31)⟩,
      ⟨(some 33), some (30, false), .bin .gtr (.t 32) (.c (.int .i64 100))⟩,
      ⟨(some 34), none, .pick (.t 30) (.c (.bool true)) (.t 33)⟩,
      ⟨(some 35), none, .mv (.t 34)⟩,
      ⟨(some 36), some (35, false), .mv (.t 6)⟩,
      ⟨(some 37), some (35, false), .bin .neq (.t 36) (.c (.int .i64 0))⟩,
      ⟨(some 38), none, .pick (.t 35) (.c (.bool true)) (.t 37)⟩,
      ⟨(some 39), none, .mv (.t 38)⟩,
      ⟨(some 40), some (39, false), .mv (.t 5)⟩,
      ⟨(some 41), some (39, false), .len false (.t 40)⟩,
      ⟨(some 42), some (39, false), .bin .eql (.t 41) (.c (.int .i64 0))⟩,
      ⟨(some 43), none, .pick (.t 39) (.c (.bool true)) (.t 42)⟩] [5, 43])
  (.cond (.t 43)
    (.seq (.rg [⟨(some 4), none, .mv (.c (.bool true))⟩] [4])
    .ret)
    .skip))
  (.seq (.rg [⟨(some 44), none, .mv (.t 5)⟩,
      ⟨(some 45), none, .call 2 (.f 18) [(.t 44)]⟩,
      ⟨(some 7), none, .mv (.t 45)⟩] [5, 7])
  (.seq (.rg [⟨(some 47), none, .mv (.t 7)⟩,
      ⟨(some 48), none, .call 2 (.f 13) [(.t 47)]⟩,
      ⟨(some 46), none, .mv (.t 48)⟩,
      ⟨(some 49), none, .ext (.t 46) 0⟩,
      ⟨(some 50), none, .ext (.t 46) 1⟩,
      ⟨(some 8), none, .mv (.t 49)⟩,
      ⟨(some 9), none, .mv (.t 50)⟩] [5, 7, 8, 9])
  (.seq (.rg [⟨(some 52), none, .mv (.t 7)⟩,
      ⟨(some 53), none, .mv (.t 7)⟩,
      ⟨(some 54), none, .len true (.t 53)⟩,
      ⟨(some 55), none, .bin .sub (.t 54) (.c (.int .i64 1))⟩,
      ⟨(some 56), none, .slst (.t 52) none (some (.t 55))⟩,
      ⟨(some 57), none, .call 2 (.f 13) [(.t 56)]⟩,
      ⟨(some 51), none, .mv (.t 57)⟩,
      ⟨(some 58), none, .ext (.t 51) 0⟩,
      ⟨(some 59), none, .ext (.t 51) 1⟩,
      ⟨(some 10), none, .mv (.t 58)⟩,
      ⟨(some 11), none, .mv (.t 59)⟩] [5, 7, 8, 9, 11])
  (.seq (.rg [⟨(some 61), none, .mv (.t 7)⟩,
      ⟨(some 62), none, .bin .add (.t 61) (.c (.string ⟨#[34]⟩))⟩,
      ⟨(some 63), none, .call 2 (.f 13) [(.t 62)]⟩,
      ⟨(some 60), none, .mv (.t 63)⟩,
      ⟨(some 64), none, .ext (.t 60) 0⟩,
      ⟨(some 65), none, .ext (.t 60) 1⟩,
      ⟨(some 12), none, .mv (.t 64)⟩,
      ⟨(some 13), none, .mv (.t 65)⟩] [5, 7, 8, 9, 11, 13])
  (.seq (.rg [⟨(some 67), none, .mv (.t 7)⟩,
      ⟨(some 68), none, .bin .add (.t 67) (.c (.string ⟨#[32]⟩))⟩,
      ⟨(some 69), none, .call 2 (.f 13) [(.t 68)]⟩,
      ⟨(some 66), none, .mv (.t 69)⟩,
      ⟨(some 70), none, .ext (.t 66) 0⟩,
      ⟨(some 71), none, .ext (.t 66) 1⟩,
      ⟨(some 14), none, .mv (.t 70)⟩,
      ⟨(some 15), none, .mv (.t 71)⟩] [5, 7, 8, 9, 11, 13, 15])
  (.seq (.rg [⟨(some 72), none, .mv (.t 9)⟩,
      ⟨(some 73), none, .bin .eql (.t 72) (.c (.int .i64 0))⟩,
      ⟨(some 74), none, .mv (.t 73)⟩,
      ⟨(some 75), some (74, true), .mv (.t 5)⟩,
      ⟨(some 76), some (74, true), .mv (.t 8)⟩,
      ⟨(some 77), some (74, true), .call 2 (.f 15) [(.t 75), (.t 76)]⟩,
      ⟨(some 78), none, .pick (.t 74) (.t 77) (.c (.bool false))⟩,
      ⟨(some 79), none, .mv (.t 78)⟩,
      ⟨(some 80), some (79, true), .mv (.t 11)⟩,
      ⟨(some 81), some (79, true), .bin .eql (.t 80) (.c (.int .i64 30))⟩,
      ⟨(some 82), none, .pick (.t 79) (.t 81) (.c (.bool false))⟩,
      ⟨(some 83), none, .mv (.t 82)⟩,
      ⟨(some 84), some (83, true), .mv (.t 13)⟩,
      ⟨(some 85), some (83, true), .bin .eql (.t 84) (.c (.int .i64 30))⟩,
      ⟨(some 86), none, .pick (.t 83) (.t 85) (.c (.bool false))⟩,
      ⟨(some 87), none, .mv (.t 86)⟩,
      ⟨(some 88), some (87, true), .mv (.t 15)⟩,
      ⟨(some 89), some (87, true), .bin .eql (.t 88) (.c (.int .i64 30))⟩,
      ⟨(some 90), none, .pick (.t 87) (.t 89) (.c (.bool false))⟩,
      ⟨(some 91), none, .mv (.t 90)⟩,
      ⟨(some 92), some (91, true), .mv (.t 7)⟩,
      ⟨(some 93), some (91, true), .ist (.t 92) (.c (.int .i64 0))⟩,
      ⟨(some 94), some (91, true), .bin .eql (.t 93) (.c (.int .u8 123))⟩,
      ⟨(some 95), none, .pick (.t 91) (.t 94) (.c (.bool false))⟩,
      ⟨(some 96), none, .mv (.t 95)⟩,
      ⟨(some 97), some (96, true), .mv (.t 7)⟩,
      ⟨(some 98), some (96, true), .mv (.t 7)⟩,
      ⟨(some 99), some (96, true), .len true (.t 98)⟩,
      ⟨(some 100), some (96, true), .bin .sub (.t 99) (.c (.int .i64 1))⟩,
      ⟨(some 101), some (96, true), .ist (.t 97) (.t 100)⟩,
      ⟨(some 102), some (96, true), .bin .eql (.t 101) (.c (.int .u8 125))⟩,
      ⟨(some 103), none, .pick (.t 96) (.t 102) (.c (.bool false))⟩,
      ⟨(some 4), none, .mv (.t 103)⟩] [4])
  .ret)))))))))),
  [.t 4]⟩

/- spillway/spillwaylaw3.LabelParts -/
def an9 : Ann := [[0, 1], [2], [0, 1, 14], [4], [2], [2], [0, 1, 26], [4], [1], [1], [0, 5, 6], [0, 5, 6, 7], [0, 5, 6, 7, 8], [0, 5, 6, 7, 8], [0, 5, 6, 7, 8, 36], [2], [2], [0, 5, 6, 7, 8, 9, 10], [0, 5, 6, 7, 8, 9, 10, 82], [4], [0, 5, 6, 7, 8, 86], [0, 5, 6, 7, 8], [0, 5, 6, 7, 8], [0, 5, 6, 7, 11], [0, 5, 6, 7, 11, 12], [0, 5, 6, 7, 11, 12], [0, 5, 6, 7, 11, 12, 92], [0, 5, 6, 7, 11, 12], [0, 5, 6, 7, 11, 12], [2], [2], [1], [2], [1], [1], [4]]
def fn9B0 : Cd :=
  (.seq (.seq (.rg [⟨(some 33), none, .mv (.t 8)⟩,
      ⟨(some 34), none, .mv (.t 0)⟩,
      ⟨(some 35), none, .len false (.t 34)⟩,
      ⟨(some 36), none, .bin .lss (.t 33) (.t 35)⟩] [0, 5, 6, 7, 8, 36])
  (.cond (.t 36)
    .skip
    (.exit 0)))
  (.seq (.block 1
    (.seq (.rg [⟨(some 39), none, .mv (.t 5)⟩,
        ⟨(some 40), none, .mv (.t 0)⟩,
        ⟨(some 41), none, .mv (.t 8)⟩,
        ⟨(some 42), none, .iad 2 (.t 40) (.t 41)⟩,
        ⟨(some 43), none, .fad 0 (.t 42)⟩,
        ⟨(some 44), none, .load false 1 (.t 43) false⟩,
        ⟨(some 45), none, .call 2 (.f 22) [(.t 39), (.t 44)]⟩,
        ⟨(some 46), none, .bin .neq (.t 45) (.c (.string ⟨#[]⟩))⟩,
        ⟨(some 47), none, .mv (.t 6)⟩,
        ⟨(some 48), none, .mv (.t 0)⟩,
        ⟨(some 49), none, .mv (.t 8)⟩,
        ⟨(some 50), none, .iad 2 (.t 48) (.t 49)⟩,
        ⟨(some 51), none, .fad 0 (.t 50)⟩,
        ⟨(some 52), none, .load false 1 (.t 51) false⟩,
        ⟨(some 53), none, .call 2 (.f 22) [(.t 47), (.t 52)]⟩,
        ⟨(some 54), none, .bin .neq (.t 53) (.c (.string ⟨#[]⟩))⟩,
        ⟨(some 9), none, .mv (.t 46)⟩,
        ⟨(some 10), none, .mv (.t 54)⟩] [0, 5, 6, 7, 8, 9, 10])
    (.seq (.seq (.rg [⟨(some 55), none, .mv (.t 9)⟩,
        ⟨(some 56), none, .mv (.t 55)⟩,
        ⟨(some 57), some (56, true), .mv (.t 10)⟩,
        ⟨(some 58), none, .pick (.t 56) (.t 57) (.c (.bool false))⟩,
        ⟨(some 59), none, .mv (.t 58)⟩,
        ⟨(some 60), some (59, false), .mv (.t 0)⟩,
        ⟨(some 61), some (59, false), .mv (.t 8)⟩,
        ⟨(some 62), some (59, false), .iad 2 (.t 60) (.t 61)⟩,
        ⟨(some 63), some (59, false), .fad 0 (.t 62)⟩,
        ⟨(some 64), some (59, false), .load false 1 (.t 63) false⟩,
        ⟨(some 65), some (59, false), .bin .neq (.t 64) (.c (.string ⟨#[95, 95, 110, 97, 109, 101, 95, 95]⟩))⟩,
        ⟨(some 66), some (59, false), .mv (.t 65)⟩,
        ⟨(some 67), some (66, true), .mv (.t 9)⟩,
        ⟨(some 68), some (66, true), .mv (.t 10)⟩,
        ⟨(some 69), some (66, true), .eqb false (.t 67) (.t 68)⟩,
        ⟨(some 70), some (59, false), .pick (.t 66) (.t 69) (.c (.bool false))⟩,
        ⟨(some 71), none, .pick (.t 59) (.c (.bool true)) (.t 70)⟩,
        ⟨(some 72), none, .mv (.t 71)⟩,
        ⟨(some 73), some (72, false), .mv (.t 0)⟩,
        ⟨(some 74), some (72, false), .mv (.t 8)⟩,
        ⟨(some 75), some (72, false), .iad 2 (.t 73) (.t 74)⟩,
        ⟨(some 76), some (72, false), .fad 0 (.t 75)⟩,
        ⟨(some 77), some (72, false), .load false 1 (.t 76) false⟩,
        ⟨(some 78), some (72, false), .bin .eql (.t 77) (.c (.string ⟨#[95, 95, 110, 97, 109, 101, 95, 95]⟩))⟩,
        ⟨(some 79), some (72, false), .mv (.t 78)⟩,
        ⟨(some 80), some (79, true), .mv (.t 10)⟩,
        ⟨(some 81), some (72, false), .pick (.t 79) (.t 80) (.c (.bool false))⟩,
        ⟨(some 82), none, .pick (.t 72) (.c (.bool true)) (.t 81)⟩] [0, 5, 6, 7, 8, 9, 10, 82])
    (.cond (.t 82)
      (.seq (.rg [⟨(some 4), none, .mv (.c (.bool false))⟩] [4])
      .ret)
      .skip))
    (.seq (.rg [⟨(some 83), none, .mv (.t 9)⟩,
        ⟨(some 84), none, .mv (.t 83)⟩,
        ⟨(some 85), some (84, false), .mv (.t 10)⟩,
        ⟨(some 86), none, .pick (.t 84) (.c (.bool true)) (.t 85)⟩] [0, 5, 6, 7, 8, 86])
    (.cond (.t 86)
      (.rg [⟨(some 87), none, .mv (.t 7)⟩,
          ⟨(some 88), none, .bin .add (.t 87) (.c (.int .i64 1))⟩,
          ⟨(some 7), none, .mv (.t 88)⟩] [0, 5, 6, 7, 8])
      .skip)))))
  (.rg [⟨(some 37), none, .mv (.t 8)⟩,
      ⟨(some 38), none, .bin .add (.t 37) (.c (.int .i64 1))⟩,
      ⟨(some 8), none, .mv (.t 38)⟩] [0, 5, 6, 7, 8])))
def fn9L0 : Cd := .loop [0, 5, 6, 7, 8] fn9B0
def fn9B1 : Cd :=
  (.seq (.seq (.rg [⟨(some 89), none, .mv (.t 12)⟩,
      ⟨(some 90), none, .mv (.t 0)⟩,
      ⟨(some 91), none, .len false (.t 90)⟩,
      ⟨(some 92), none, .bin .lss (.t 89) (.t 91)⟩] [0, 5, 6, 7, 11, 12, 92])
  (.cond (.t 92)
    .skip
    (.exit 2)))
  (.seq (.block 3
    (.rg [⟨(some 95), none, .mv (.t 11)⟩,
        ⟨(some 96), none, .mv (.t 0)⟩,
        ⟨(some 97), none, .mv (.t 12)⟩,
        ⟨(some 98), none, .iad 2 (.t 96) (.t 97)⟩,
        ⟨(some 99), none, .fad 0 (.t 98)⟩,
        ⟨(some 100), none, .load false 1 (.t 99) false⟩,
        ⟨(some 101), none, .bslice 1 1 [(.str ⟨#[]⟩)] [(0, (.t 100))]⟩,
        ⟨(some 102), none, .app 1 16 (.t 95) (.t 101)⟩,
        ⟨(some 11), none, .mv (.t 102)⟩] [0, 5, 6, 7, 11, 12]))
  (.rg [⟨(some 93), none, .mv (.t 12)⟩,
      ⟨(some 94), none, .bin .add (.t 93) (.c (.int .i64 1))⟩,
      ⟨(some 12), none, .mv (.t 94)⟩] [0, 5, 6, 7, 11, 12])))
def fn9L1 : Cd := .loop [0, 5, 6, 7, 11, 12] fn9B1
def fn9 : Vs.Fn := ⟨2,
  (.seq (.rg [⟨(some 4), none, .mv (.c (.bool false))⟩] [0, 1])
  (.seq (.seq (.rg [⟨(some 13), none, .call 2 (.f 12) []⟩,
      ⟨(some 14), none, .un .not (.t 13)⟩] [0, 1, 14])
  (.cond (.t 14)
    (.seq (.rg [⟨(some 4), none, .mv (.c (.bool false))⟩] [4])
    .ret)
    .skip))
  (.seq (.seq (.rg [⟨(some 15), none, .mv (.t 0)⟩,
      ⟨(some 16), none, .call 2 (.f 16) [(.t 15)]⟩,
      ⟨(some 17), none, .mv (.t 16)⟩,
      ⟨(some 18), some (17, false), .mv (.t 0)⟩,
      ⟨(some 19), some (17, false), .call 2 (.f 17) [(.t 18)]⟩,
      ⟨(some 20), some (17, false), .un .not (.t 19)⟩,
      ⟨(some 21), none, .pick (.t 17) (.c (.bool true)) (.t 20)⟩,
      ⟨(some 22), none, .mv (.t 21)⟩,
      ⟨(some 23), some (22, false), .mv (.t 1)⟩,
      ⟨(some 24), some (22, false), .len false (.t 23)⟩,
      ⟨(some 25), some (22, false), .bin .gtr (.t 24) (.c (.int .i64 20))⟩,
      ⟨(some 26), none, .pick (.t 22) (.c (.bool true)) (.t 25)⟩] [0, 1, 26])
  (.cond (.t 26)
    (.seq (.rg [⟨(some 4), none, .mv (.c (.bool true))⟩] [4])
    .ret)
    .skip))
  (.seq (.rg [⟨(some 27), none, .mv (.t 0)⟩,
      ⟨(some 28), none, .mv (.t 1)⟩,
      ⟨(some 29), none, .call 1 (.f 23) [(.t 27), (.t 28)]⟩,
      ⟨(some 30), none, .mv (.t 0)⟩,
      ⟨(some 31), none, .mv (.t 1)⟩,
      ⟨(some 32), none, .call 1 (.f 24) [(.t 30), (.t 31)]⟩,
      ⟨(some 5), none, .mv (.t 29)⟩,
      ⟨(some 6), none, .mv (.t 32)⟩] [0, 5, 6])
  (.seq (.rg [⟨(some 7), none, .mv (.c (.int .i64 0))⟩] [0, 5, 6, 7])
  (.seq (.seq (.rg [⟨(some 8), none, .mv (.c (.int .i64 0))⟩] [0, 5, 6, 7, 8])
  (.block 0
    fn9L0))
  (.seq (.rg [⟨(some 11), none, .mv (.c (.slice none 0 0))⟩] [0, 5, 6, 7, 11])
  (.seq (.seq (.rg [⟨(some 12), none, .mv (.c (.int .i64 0))⟩] [0, 5, 6, 7, 11, 12])
  (.block 2
    fn9L1))
  (.seq (.rg [⟨(some 103), none, .mv (.t 7)⟩,
      ⟨(some 104), none, .mv (.t 5)⟩,
      ⟨(some 105), none, .len false (.t 104)⟩,
      ⟨(some 106), none, .mv (.t 6)⟩,
      ⟨(some 107), none, .len false (.t 106)⟩,
      ⟨(some 108), none, .bin .add (.t 105) (.t 107)⟩,
      ⟨(some 109), none, .bin .eql (.t 103) (.t 108)⟩,
      ⟨(some 110), none, .mv (.t 109)⟩,
      ⟨(some 111), some (110, true), .mv (.t 5)⟩,
      ⟨(some 112), some (110, true), .call 2 (.f 17) [(.t 111)]⟩,
      ⟨(some 113), none, .pick (.t 110) (.t 112) (.c (.bool false))⟩,
      ⟨(some 114), none, .mv (.t 113)⟩,
      ⟨(some 115), some (114, true), .mv (.t 6)⟩,
      ⟨(some 116), some (114, true), .call 2 (.f 17) [(.t 115)]⟩,
      ⟨(some 117), none, .pick (.t 114) (.t 116) (.c (.bool false))⟩,
      ⟨(some 118), none, .mv (.t 117)⟩,
      ⟨(some 119), some (118, true), .mv (.t 0)⟩,
      ⟨(some 120), some (118, true), .mv (.t 11)⟩,
      ⟨(some 121), some (118, true), .call 1 (.f 23) [(.t 119), (.t 120)]⟩,
      ⟨(some 122), some (118, true), .mv (.t 0)⟩,
      ⟨(some 123), some (118, true), .call 2 (.f 15) [(.t 121), (.t 122)]⟩,
      ⟨(some 124), none, .pick (.t 118) (.t 123) (.c (.bool false))⟩,
      ⟨(some 125), none, .mv (.t 124)⟩,
      ⟨(some 126), some (125, true), .mv (.t 0)⟩,
      ⟨(some 127), some (125, true), .mv (.t 11)⟩,
      ⟨(some 128), some (125, true), .call 1 (.f 24) [(.t 126), (.t 127)]⟩,
      ⟨(some 129), some (125, true), .len false (.t 128)⟩,
      ⟨(some 130), some (125, true), .bin .eql (.t 129) (.c (.int .i64 0))⟩,
      ⟨(some 131), none, .pick (.t 125) (.t 130) (.c (.bool false))⟩,
      ⟨(some 132), none, .mv (.t 131)⟩,
      ⟨(some 133), some (132, true), .mv (.t 0)⟩,
      ⟨(some 134), some (132, true), .call 1 (.f 23) [(.t 133), (.c (.slice none 0 0))]⟩,
      ⟨(some 135), some (132, true), .len false (.t 134)⟩,
      ⟨(some 136), some (132, true), .bin .eql (.t 135) (.c (.int .i64 0))⟩,
      ⟨(some 137), none, .pick (.t 132) (.t 136) (.c (.bool false))⟩,
      ⟨(some 4), none, .mv (.t 137)⟩] [4])
  .ret))))))))),
  [.t 4]⟩

/- spillway/spillwaylaw3.LabelWith -/
def an10 : Ann := [[0, 4, 5], [2], [0, 4, 5, 17], [6], [2], [2], [0, 4, 5, 36], [6], [1], [0, 4, 5, 7, 8], [0, 4, 5, 7, 8, 45], [6], [1], [0, 4, 5, 7, 9, 10], [2], [2], [2], [0, 4, 5, 7, 84], [6], [0, 4, 5, 7, 11], [0, 4, 5, 7, 11], [0, 4, 5, 7, 11, 88], [2], [0, 4, 5, 7, 11, 113], [6], [0, 4, 5, 7, 11], [1], [0, 4, 5, 12, 13], [1], [4, 5, 12, 13, 14, 15], [2], [6]]
def fn10B0 : Cd :=
  (.seq (.seq (.rg [⟨(some 85), none, .mv (.t 11)⟩,
      ⟨(some 86), none, .mv (.t 0)⟩,
      ⟨(some 87), none, .len false (.t 86)⟩,
      ⟨(some 88), none, .bin .lss (.t 85) (.t 87)⟩] [0, 4, 5, 7, 11, 88])
  (.cond (.t 88)
    .skip
    (.exit 0)))
  (.seq (.block 1
    (.seq (.rg [⟨(some 91), none, .mv (.t 0)⟩,
        ⟨(some 92), none, .mv (.t 11)⟩,
        ⟨(some 93), none, .iad 2 (.t 91) (.t 92)⟩,
        ⟨(some 94), none, .fad 0 (.t 93)⟩,
        ⟨(some 95), none, .load false 1 (.t 94) false⟩,
        ⟨(some 96), none, .fad 0 (.t 4)⟩,
        ⟨(some 97), none, .load false 1 (.t 96) false⟩,
        ⟨(some 98), none, .bin .neq (.t 95) (.t 97)⟩,
        ⟨(some 99), none, .mv (.t 98)⟩,
        ⟨(some 100), some (99, true), .mv (.t 7)⟩,
        ⟨(some 101), some (99, true), .mv (.t 0)⟩,
        ⟨(some 102), some (99, true), .mv (.t 11)⟩,
        ⟨(some 103), some (99, true), .iad 2 (.t 101) (.t 102)⟩,
        ⟨(some 104), some (99, true), .fad 0 (.t 103)⟩,
        ⟨(some 105), some (99, true), .load false 1 (.t 104) false⟩,
        ⟨(some 106), some (99, true), .call 2 (.f 22) [(.t 100), (.t 105)]⟩,
        ⟨(some 107), some (99, true), .mv (.t 0)⟩,
        ⟨(some 108), some (99, true), .mv (.t 11)⟩,
        ⟨(some 109), some (99, true), .iad 2 (.t 107) (.t 108)⟩,
        ⟨(some 110), some (99, true), .fad 1 (.t 109)⟩,
        ⟨(some 111), some (99, true), .load false 1 (.t 110) false⟩,
        ⟨(some 112), some (99, true), .bin .neq (.t 106) (.t 111)⟩,
        ⟨(some 113), none, .pick (.t 99) (.t 112) (.c (.bool false))⟩] [0, 4, 5, 7, 11, 113])
    (.cond (.t 113)
      (.seq (.rg [⟨(some 6), none, .mv (.c (.bool false))⟩] [6])
      .ret)
      .skip)))
  (.rg [⟨(some 89), none, .mv (.t 11)⟩,
      ⟨(some 90), none, .bin .add (.t 89) (.c (.int .i64 1))⟩,
      ⟨(some 11), none, .mv (.t 90)⟩] [0, 4, 5, 7, 11])))
def fn10L0 : Cd := .loop [0, 4, 5, 7, 11] fn10B0
def fn10 : Vs.Fn := ⟨3,
  (.seq (.rg [⟨(some 4), none, .box 2 (.t 1)⟩,
      ⟨(some 5), none, .box 2 (.t 2)⟩,
      ⟨(some 6), none, .mv (.c (.bool false))⟩] [0, 4, 5])
  (.seq (.seq (.rg [⟨(some 16), none, .call 2 (.f 12) []⟩,
      ⟨(some 17), none, .un .not (.t 16)⟩] [0, 4, 5, 17])
  (.cond (.t 17)
    (.seq (.rg [⟨(some 6), none, .mv (.c (.bool false))⟩] [6])
    .ret)
    .skip))
  (.seq (.seq (.rg [⟨(some 18), none, .mv (.t 0)⟩,
      ⟨(some 19), none, .call 2 (.f 16) [(.t 18)]⟩,
      ⟨(some 20), none, .mv (.t 19)⟩,
      ⟨(some 21), some (20, false), .mv (.t 0)⟩,
      ⟨(some 22), some (20, false), .call 2 (.f 17) [(.t 21)]⟩,
      ⟨(some 23), some (20, false), .un .not (.t 22)⟩,
      ⟨(some 24), none, .pick (.t 20) (.c (.bool true)) (.t 23)⟩,
      ⟨(some 25), none, .mv (.t 24)⟩,
      ⟨(some 26), some (25, false), .fad 1 (.t 4)⟩,
      ⟨(some 27), some (25, false), .load false 1 (.t 26) false⟩,
      ⟨(some 28), some (25, false), .len true (.t 27)⟩,
      ⟨(some 29), some (25, false), .bin .gtr (.t 28) (.c (.int .i64 100))⟩,
      ⟨(some 30), none, .pick (.t 25) (.c (.bool true)) (.t 29)⟩,
      ⟨(some 31), none, .mv (.t 30)⟩,
      ⟨(some 32), some (31, false), .fad 1 (.t 5)⟩,
      ⟨(some 33), some (31, false), .load false 1 (.t 32) false⟩,
      ⟨(some 34), some (31, false), .len true (.t 33)⟩,
      ⟨(some 35), some (31, false), .bin .gtr (.t 34) (.c (.int .i64 100))⟩,
      ⟨(some 36), none, .pick (.t 31) (.c (.bool true)) (.t 35)⟩] [0, 4, 5, 36])
  (.cond (.t 36)
    (.seq (.rg [⟨(some 6), none, .mv (.c (.bool true))⟩] [6])
    .ret)
    .skip))
  (.seq (.rg [⟨(some 38), none, .mv (.t 0)⟩,
      ⟨(some 39), none, .load true 2 (.t 4) false⟩,
      ⟨(some 40), none, .bslice 1 2 [(.str ⟨#[]⟩), (.str ⟨#[]⟩)] [(0, (.t 39))]⟩,
      ⟨(some 41), none, .call 1 (.f 25) [(.t 38), (.t 40)]⟩,
      ⟨(some 37), none, .mv (.t 41)⟩,
      ⟨(some 42), none, .ext (.t 37) 0⟩,
      ⟨(some 43), none, .ext (.t 37) 1⟩,
      ⟨(some 7), none, .mv (.t 42)⟩,
      ⟨(some 8), none, .mv (.t 43)⟩] [0, 4, 5, 7, 8])
  (.seq (.seq (.rg [⟨(some 44), none, .mv (.t 8)⟩,
      ⟨(some 45), none, .bin .neq (.t 44) (.c (.int .i64 0))⟩] [0, 4, 5, 7, 8, 45])
  (.cond (.t 45)
    (.seq (.rg [⟨(some 46), none, .mv (.t 8)⟩,
        ⟨(some 47), none, .bin .eql (.t 46) (.c (.int .i64 30))⟩,
        ⟨(some 6), none, .mv (.t 47)⟩] [6])
    .ret)
    .skip))
  (.seq (.rg [⟨(some 49), none, .mv (.t 7)⟩,
      ⟨(some 50), none, .fad 0 (.t 4)⟩,
      ⟨(some 51), none, .load false 1 (.t 50) false⟩,
      ⟨(some 52), none, .build [(.str ⟨#[]⟩), (.str ⟨#[]⟩)] [(0, 1, (.t 51))]⟩,
      ⟨(some 53), none, .bslice 1 2 [(.str ⟨#[]⟩), (.str ⟨#[]⟩)] [(0, (.t 52))]⟩,
      ⟨(some 54), none, .call 1 (.f 25) [(.t 49), (.t 53)]⟩,
      ⟨(some 48), none, .mv (.t 54)⟩,
      ⟨(some 55), none, .ext (.t 48) 0⟩,
      ⟨(some 56), none, .ext (.t 48) 1⟩,
      ⟨(some 9), none, .mv (.t 55)⟩,
      ⟨(some 10), none, .mv (.t 56)⟩] [0, 4, 5, 7, 9, 10])
  (.seq (.seq (.rg [⟨(some 57), none, .mv (.t 7)⟩,
      ⟨(some 58), none, .fad 0 (.t 4)⟩,
      ⟨(some 59), none, .load false 1 (.t 58) false⟩,
      ⟨(some 60), none, .call 2 (.f 22) [(.t 57), (.t 59)]⟩,
      ⟨(some 61), none, .fad 1 (.t 4)⟩,
      ⟨(some 62), none, .load false 1 (.t 61) false⟩,
      ⟨(some 63), none, .bin .neq (.t 60) (.t 62)⟩,
      ⟨(some 64), none, .mv (.t 63)⟩,
      ⟨(some 65), some (64, false), .mv (.t 10)⟩,
      ⟨(some 66), some (64, false), .bin .neq (.t 65) (.c (.int .i64 0))⟩,
      ⟨(some 67), none, .pick (.t 64) (.c (.bool true)) (.t 66)⟩,
      ⟨(some 68), none, .mv (.t 67)⟩,
      ⟨(some 69), some (68, false), .mv (.t 9)⟩,
      ⟨(some 70), some (68, false), .fad 0 (.t 4)⟩,
      ⟨(some 71), some (68, false), .load false 1 (.t 70) false⟩,
      ⟨(some 72), some (68, false), .call 2 (.f 22) [(.t 69), (.t 71)]⟩,
      ⟨(some 73), some (68, false), .bin .neq (.t 72) (.c (.string ⟨#[]⟩))⟩,
      ⟨(some 74), none, .pick (.t 68) (.c (.bool true)) (.t 73)⟩,
      ⟨(some 75), none, .mv (.t 74)⟩,
      ⟨(some 76), some (75, false), .fad 1 (.t 4)⟩,
      ⟨(some 77), some (75, false), .load false 1 (.t 76) false⟩,
      ⟨(some 78), some (75, false), .bin .neq (.t 77) (.c (.string ⟨#[]⟩))⟩,
      ⟨(some 79), some (75, false), .mv (.t 78)⟩,
      ⟨(some 80), some (79, true), .mv (.t 7)⟩,
      ⟨(some 81), some (79, true), .call 2 (.f 17) [(.t 80)]⟩,
      ⟨(some 82), some (79, true), .un .not (.t 81)⟩,
      ⟨(some 83), some (75, false), .pick (.t 79) (.t 82) (.c (.bool false))⟩,
      ⟨(some 84), none, .pick (.t 75) (.c (.bool true)) (.t 83)⟩] [0, 4, 5, 7, 84])
  (.cond (.t 84)
    (.seq (.rg [⟨(some 6), none, .mv (.c (.bool false))⟩] [6])
    .ret)
    .skip))
  (.seq (.seq (.rg [⟨(some 11), none, .mv (.c (.int .i64 0))⟩] [0, 4, 5, 7, 11])
  (.block 0
    fn10L0))
  (.seq (.rg [⟨(some 115), none, .mv (.t 0)⟩,
      ⟨(some 116), none, .load true 2 (.t 4) false⟩,
      ⟨(some 117), none, .load true 2 (.t 5) false⟩,
      ⟨(some 118), none, .bslice 2 2 [(.str ⟨#[]⟩), (.str ⟨#[]⟩)] [(0, (.t 116)), (1, (.t 117))]⟩,
      ⟨(some 119), none, .call 1 (.f 25) [(.t 115), (.t 118)]⟩,
      ⟨(some 114), none, .mv (.t 119)⟩,
      ⟨(some 120), none, .ext (.t 114) 0⟩,
      ⟨(some 121), none, .ext (.t 114) 1⟩,
      ⟨(some 12), none, .mv (.t 120)⟩,
      ⟨(some 13), none, .mv (.t 121)⟩] [0, 4, 5, 12, 13])
  (.seq (.rg [⟨(some 123), none, .mv (.t 0)⟩,
      ⟨(some 124), none, .load true 2 (.t 5) false⟩,
      ⟨(some 125), none, .load true 2 (.t 4) false⟩,
      ⟨(some 126), none, .bslice 2 2 [(.str ⟨#[]⟩), (.str ⟨#[]⟩)] [(0, (.t 124)), (1, (.t 125))]⟩,
      ⟨(some 127), none, .call 1 (.f 25) [(.t 123), (.t 126)]⟩,
      ⟨(some 122), none, .mv (.t 127)⟩,
      ⟨(some 128), none, .ext (.t 122) 0⟩,
      ⟨(some 129), none, .ext (.t 122) 1⟩,
      ⟨(some 14), none, .mv (.t 128)⟩,
      ⟨(some 15), none, .mv (.t 129)⟩] [4, 5, 12, 13, 14, 15])
  (.seq (.rg [⟨(some 130), none, .fad 0 (.t 4)⟩,
      ⟨(some 131), none, .load false 1 (.t 130) false⟩,
      ⟨(some 132), none, .fad 0 (.t 5)⟩,
      ⟨(some 133), none, .load false 1 (.t 132) false⟩,
      ⟨(some 134), none, .bin .eql (.t 131) (.t 133)⟩,
      ⟨(some 135), none, .mv (.t 134)⟩,
      ⟨(some 136), some (135, false), .mv (.t 13)⟩,
      ⟨(some 137), some (135, false), .mv (.t 15)⟩,
      ⟨(some 138), some (135, false), .bin .eql (.t 136) (.t 137)⟩,
      ⟨(some 139), some (135, false), .mv (.t 138)⟩,
      ⟨(some 140), some (139, true), .mv (.t 12)⟩,
      ⟨(some 141), some (139, true), .mv (.t 14)⟩,
      ⟨(some 142), some (139, true), .call 2 (.f 15) [(.t 140), (.t 141)]⟩,
      ⟨(some 143), some (135, false), .pick (.t 139) (.t 142) (.c (.bool false))⟩,
      ⟨(some 144), none, .pick (.t 135) (.c (.bool true)) (.t 143)⟩,
      ⟨(some 6), none, .mv (.t 144)⟩] [6])
  .ret))))))))))),
  [.t 6]⟩

/- spillway/spillwaylaw3.known -/
def an12 : Ann := [[], [1], [1, 2], [1], [1, 2, 4], [2], [1, 2, 4, 5, 6], [2], [2], [2], [2], [1], [0]]
def fn12 : Vs.Fn := ⟨0,
  (.seq (.rg [⟨(some 0), none, .mv (.c (.bool false))⟩] [])
  (.seq (.rg [⟨(some 8), none, .build [(.str ⟨#[]⟩), (.str ⟨#[]⟩)] [(0, 1, (.c (.string ⟨#[106, 111, 98]⟩))), (1, 1, (.c (.string ⟨#[97]⟩)))]⟩,
      ⟨(some 9), none, .build [(.str ⟨#[]⟩), (.str ⟨#[]⟩)] [(0, 1, (.c (.string ⟨#[95, 95, 110, 97, 109, 101, 95, 95]⟩))), (1, 1, (.c (.string ⟨#[117, 112]⟩)))]⟩,
      ⟨(some 10), none, .bslice 2 2 [(.str ⟨#[]⟩), (.str ⟨#[]⟩)] [(0, (.t 8)), (1, (.t 9))]⟩,
      ⟨(some 11), none, .call 1 (.f 20) [(.t 10)]⟩,
      ⟨(some 7), none, .mv (.t 11)⟩,
      ⟨(some 12), none, .ext (.t 7) 0⟩,
      ⟨(some 13), none, .ext (.t 7) 1⟩,
      ⟨(some 1), none, .mv (.t 12)⟩,
      ⟨(some 2), none, .mv (.t 13)⟩] [1, 2])
  (.seq (.rg [⟨(some 15), none, .build [(.str ⟨#[]⟩), (.str ⟨#[]⟩)] [(0, 1, (.c (.string ⟨#[97]⟩))), (1, 1, (.c (.string ⟨#[120]⟩)))]⟩,
      ⟨(some 16), none, .build [(.str ⟨#[]⟩), (.str ⟨#[]⟩)] [(0, 1, (.c (.string ⟨#[97]⟩))), (1, 1, (.c (.string ⟨#[]⟩)))]⟩,
      ⟨(some 17), none, .bslice 2 2 [(.str ⟨#[]⟩), (.str ⟨#[]⟩)] [(0, (.t 15)), (1, (.t 16))]⟩,
      ⟨(some 18), none, .call 1 (.f 20) [(.t 17)]⟩,
      ⟨(some 14), none, .mv (.t 18)⟩,
      ⟨(some 19), none, .ext (.t 14) 0⟩,
      ⟨(some 20), none, .ext (.t 14) 1⟩,
      ⟨(some 3), none, .mv (.t 19)⟩,
      ⟨(some 4), none, .mv (.t 20)⟩] [1, 2, 4])
  (.seq (.rg [⟨(some 22), none, .call 2 (.f 13) [(.c (.string ⟨#[117, 112, 123, 106, 111, 98, 61, 34, 97, 34, 125]⟩))]⟩,
      ⟨(some 21), none, .mv (.t 22)⟩,
      ⟨(some 23), none, .ext (.t 21) 0⟩,
      ⟨(some 24), none, .ext (.t 21) 1⟩,
      ⟨(some 5), none, .mv (.t 23)⟩,
      ⟨(some 6), none, .mv (.t 24)⟩] [1, 2, 4, 5, 6])
  (.seq (.rg [⟨(some 25), none, .mv (.t 2)⟩,
      ⟨(some 26), none, .bin .eql (.t 25) (.c (.int .i64 0))⟩,
      ⟨(some 27), none, .mv (.t 26)⟩,
      ⟨(some 28), some (27, true), .mv (.t 1)⟩,
      ⟨(some 29), some (27, true), .call 2 (.f 18) [(.t 28)]⟩,
      ⟨(some 30), some (27, true), .bin .eql (.t 29) (.c (.string ⟨#[117, 112, 123, 106, 111, 98, 61, 34, 97, 34, 125]⟩))⟩,
      ⟨(some 31), none, .pick (.t 27) (.t 30) (.c (.bool false))⟩,
      ⟨(some 32), none, .mv (.t 31)⟩,
      ⟨(some 33), some (32, true), .mv (.t 4)⟩,
      ⟨(some 34), some (32, true), .bin .eql (.t 33) (.c (.int .i64 31))⟩,
      ⟨(some 35), none, .pick (.t 32) (.t 34) (.c (.bool false))⟩,
      ⟨(some 36), none, .mv (.t 35)⟩,
      ⟨(some 37), some (36, true), .mv (.t 6)⟩,
      ⟨(some 38), some (36, true), .bin .eql (.t 37) (.c (.int .i64 0))⟩,
      ⟨(some 39), none, .pick (.t 36) (.t 38) (.c (.bool false))⟩,
      ⟨(some 40), none, .mv (.t 39)⟩,
      ⟨(some 41), some (40, true), .mv (.t 1)⟩,
      ⟨(some 42), some (40, true), .mv (.t 5)⟩,
      ⟨(some 43), some (40, true), .call 2 (.f 19) [(.t 41), (.t 42)]⟩,
      ⟨(some 44), some (40, true), .bin .eql (.t 43) (.c (.int .i64 0))⟩,
      ⟨(some 45), none, .pick (.t 40) (.t 44) (.c (.bool false))⟩,
      ⟨(some 46), none, .mv (.t 45)⟩,
      ⟨(some 47), some (46, true), .call 2 (.f 18) [(.c (.slice none 0 0))]⟩,
      ⟨(some 48), some (46, true), .bin .eql (.t 47) (.c (.string ⟨#[123, 125]⟩))⟩,
      ⟨(some 49), none, .pick (.t 46) (.t 48) (.c (.bool false))⟩,
      ⟨(some 50), none, .mv (.t 49)⟩,
      ⟨(some 51), some (50, true), .mv (.t 1)⟩,
      ⟨(some 52), some (50, true), .call 2 (.f 22) [(.t 51), (.c (.string ⟨#[106, 111, 98]⟩))]⟩,
      ⟨(some 53), some (50, true), .bin .eql (.t 52) (.c (.string ⟨#[97]⟩))⟩,
      ⟨(some 54), none, .pick (.t 50) (.t 53) (.c (.bool false))⟩,
      ⟨(some 55), none, .mv (.t 54)⟩,
      ⟨(some 56), some (55, true), .mv (.t 1)⟩,
      ⟨(some 57), some (55, true), .call 1 (.f 24) [(.t 56), (.c (.slice none 0 0))]⟩,
      ⟨(some 58), some (55, true), .len false (.t 57)⟩,
      ⟨(some 59), some (55, true), .bin .eql (.t 58) (.c (.int .i64 1))⟩,
      ⟨(some 60), none, .pick (.t 55) (.t 59) (.c (.bool false))⟩,
      ⟨(some 0), none, .mv (.t 60)⟩] [0])
  .ret))))),
  [.t 0]⟩

/- spillway/label.Parse -/
def an13 : Ann := [[0], [2], [0, 4, 5, 6], [0, 4, 5, 6, 7], [0, 4, 5, 6, 7, 23], [0, 5, 6, 7], [0, 5, 6, 7], [0, 5, 6, 7, 33], [2], [0, 6, 7, 8, 9, 10], [2], [0, 6, 7, 8, 10, 11, 12, 13], [0, 6, 7, 8, 11, 12, 56], [2, 3], [0, 6, 7, 12], [2], [0, 5, 6, 7], [1], [0, 14, 15], [2], [14, 77], [2, 3], [2, 3]]
def fn13B0 : Cd :=
  (.seq (.seq (.rg [⟨(some 29), none, .mv (.t 6)⟩,
      ⟨(some 30), none, .mv (.t 29)⟩,
      ⟨(some 31), some (30, true), .mv (.t 5)⟩,
      ⟨(some 32), some (30, true), .bin .neq (.t 31) (.c (.string ⟨#[125]⟩))⟩,
      ⟨(some 33), none, .pick (.t 30) (.t 32) (.c (.bool false))⟩] [0, 5, 6, 7, 33])
  (.cond (.t 33)
    .skip
    (.exit 0)))
  (.block 1
    (.seq (.rg [⟨(some 35), none, .mv (.t 5)⟩,
        ⟨(some 36), none, .call 2 (.f 35) [(.t 35), (.c (.string ⟨#[61]⟩))]⟩,
        ⟨(some 34), none, .mv (.t 36)⟩,
        ⟨(some 37), none, .ext (.t 34) 0⟩,
        ⟨(some 38), none, .ext (.t 34) 1⟩,
        ⟨(some 39), none, .ext (.t 34) 2⟩,
        ⟨(some 8), none, .mv (.t 37)⟩,
        ⟨(some 9), none, .mv (.t 38)⟩,
        ⟨(some 10), none, .mv (.t 39)⟩] [0, 6, 7, 8, 9, 10])
    (.seq (.rg [⟨(some 41), none, .mv (.t 9)⟩,
        ⟨(some 42), none, .call 2 (.f 36) [(.t 41)]⟩,
        ⟨(some 40), none, .mv (.t 42)⟩,
        ⟨(some 43), none, .ext (.t 40) 0⟩,
        ⟨(some 44), none, .ext (.t 40) 1⟩,
        ⟨(some 45), none, .ext (.t 40) 2⟩,
        ⟨(some 11), none, .mv (.t 43)⟩,
        ⟨(some 12), none, .mv (.t 44)⟩,
        ⟨(some 13), none, .mv (.t 45)⟩] [0, 6, 7, 8, 10, 11, 12, 13])
    (.seq (.seq (.rg [⟨(some 46), none, .mv (.t 10)⟩,
        ⟨(some 47), none, .un .not (.t 46)⟩,
        ⟨(some 48), none, .mv (.t 47)⟩,
        ⟨(some 49), some (48, false), .mv (.t 13)⟩,
        ⟨(some 50), some (48, false), .un .not (.t 49)⟩,
        ⟨(some 51), none, .pick (.t 48) (.c (.bool true)) (.t 50)⟩,
        ⟨(some 52), none, .mv (.t 51)⟩,
        ⟨(some 53), some (52, false), .mv (.t 7)⟩,
        ⟨(some 54), some (52, false), .len false (.t 53)⟩,
        ⟨(some 55), some (52, false), .bin .gtr (.t 54) (.c (.int .i64 8))⟩,
        ⟨(some 56), none, .pick (.t 52) (.c (.bool true)) (.t 55)⟩] [0, 6, 7, 8, 11, 12, 56])
    (.cond (.t 56)
      (.seq (.rg [⟨(some 2), none, .mv (.c (.slice none 0 0))⟩,
          ⟨(some 3), none, .mv (.c (.int .i64 30))⟩] [2, 3])
      .ret)
      .skip))
    (.seq (.rg [⟨(some 57), none, .mv (.t 7)⟩,
        ⟨(some 58), none, .mv (.t 8)⟩,
        ⟨(some 59), none, .mv (.t 11)⟩,
        ⟨(some 60), none, .build [(.str ⟨#[]⟩), (.str ⟨#[]⟩)] [(0, 1, (.t 58)), (1, 1, (.t 59))]⟩,
        ⟨(some 61), none, .bslice 1 2 [(.str ⟨#[]⟩), (.str ⟨#[]⟩)] [(0, (.t 60))]⟩,
        ⟨(some 62), none, .app 2 32 (.t 57) (.t 61)⟩,
        ⟨(some 7), none, .mv (.t 62)⟩] [0, 6, 7, 12])
    (.rg [⟨(some 63), none, .mv (.t 12)⟩,
        ⟨(some 64), none, .call 2 (.f 37) [(.t 63), (.c (.string ⟨#[44]⟩))]⟩,
        ⟨(some 5), none, .mv (.t 64)⟩] [0, 5, 6, 7])))))))
def fn13L0 : Cd := .loop [0, 5, 6, 7] fn13B0
def fn13 : Vs.Fn := ⟨1,
  (.seq (.rg [⟨(some 2), none, .mv (.c (.slice none 0 0))⟩,
      ⟨(some 3), none, .mv (.c (.int .i64 0))⟩] [0])
  (.seq (.rg [⟨(some 17), none, .mv (.t 0)⟩,
      ⟨(some 18), none, .call 2 (.f 35) [(.t 17), (.c (.string ⟨#[123]⟩))]⟩,
      ⟨(some 16), none, .mv (.t 18)⟩,
      ⟨(some 19), none, .ext (.t 16) 0⟩,
      ⟨(some 20), none, .ext (.t 16) 1⟩,
      ⟨(some 21), none, .ext (.t 16) 2⟩,
      ⟨(some 4), none, .mv (.t 19)⟩,
      ⟨(some 5), none, .mv (.t 20)⟩,
      ⟨(some 6), none, .mv (.t 21)⟩] [0, 4, 5, 6])
  (.seq (.rg [⟨(some 7), none, .mv (.c (.slice none 0 0))⟩] [0, 4, 5, 6, 7])
  (.seq (.seq (.rg [⟨(some 22), none, .mv (.t 4)⟩,
      ⟨(some 23), none, .bin .neq (.t 22) (.c (.string ⟨#[]⟩))⟩] [0, 4, 5, 6, 7, 23])
  (.cond (.t 23)
    (.rg [⟨(some 24), none, .mv (.t 7)⟩,
        ⟨(some 25), none, .mv (.t 4)⟩,
        ⟨(some 26), none, .build [(.str ⟨#[]⟩), (.str ⟨#[]⟩)] [(0, 1, (.c (.string ⟨#[95, 95, 110, 97, 109, 101, 95, 95]⟩))), (1, 1, (.t 25))]⟩,
        ⟨(some 27), none, .bslice 1 2 [(.str ⟨#[]⟩), (.str ⟨#[]⟩)] [(0, (.t 26))]⟩,
        ⟨(some 28), none, .app 2 32 (.t 24) (.t 27)⟩,
        ⟨(some 7), none, .mv (.t 28)⟩] [0, 5, 6, 7])
    .skip))
  (.seq (.block 0
    fn13L0)
  (.seq (.rg [⟨(some 66), none, .mv (.t 7)⟩,
      ⟨(some 67), none, .call 1 (.f 20) [(.t 66)]⟩,
      ⟨(some 65), none, .mv (.t 67)⟩,
      ⟨(some 68), none, .ext (.t 65) 0⟩,
      ⟨(some 69), none, .ext (.t 65) 1⟩,
      ⟨(some 14), none, .mv (.t 68)⟩,
      ⟨(some 15), none, .mv (.t 69)⟩] [0, 14, 15])
  (.seq (.seq (.rg [⟨(some 70), none, .mv (.t 15)⟩,
      ⟨(some 71), none, .bin .neq (.t 70) (.c (.int .i64 0))⟩,
      ⟨(some 72), none, .mv (.t 71)⟩,
      ⟨(some 73), some (72, false), .mv (.t 14)⟩,
      ⟨(some 74), some (72, false), .call 2 (.f 18) [(.t 73)]⟩,
      ⟨(some 75), some (72, false), .mv (.t 0)⟩,
      ⟨(some 76), some (72, false), .bin .neq (.t 74) (.t 75)⟩,
      ⟨(some 77), none, .pick (.t 72) (.c (.bool true)) (.t 76)⟩] [14, 77])
  (.cond (.t 77)
    (.seq (.rg [⟨(some 2), none, .mv (.c (.slice none 0 0))⟩,
        ⟨(some 3), none, .mv (.c (.int .i64 30))⟩] [2, 3])
    .ret)
    .skip))
  (.seq (.rg [⟨(some 78), none, .mv (.t 14)⟩,
      ⟨(some 2), none, .mv (.t 78)⟩,
      ⟨(some 3), none, .mv (.c (.int .i64 0))⟩] [2, 3])
  .ret)))))))),
  [.t 2, .t 3]⟩

/- spillway/spillwayref3.Parse -/
def an14 : Ann := [[0], [0, 4], [2], [0, 4, 5], [0, 4, 5, 13], [0, 4, 5], [0, 4, 6], [0, 4, 6, 25], [0, 4, 6, 28], [2, 3], [0, 4, 6], [0, 4, 6], [0, 4, 6, 32], [2], [0, 4, 6, 7], [0, 4, 6, 7, 48], [2, 3], [2], [0, 4, 6, 7, 8, 9], [0, 4, 6, 7, 8, 9, 58], [2, 3], [0, 4, 6, 7, 9], [0, 4, 6], [0, 4, 6, 87], [2, 3], [0, 4, 6, 90], [0, 4, 6], [0], [0, 4], [2], [2], [4, 103], [2, 3], [2, 3]]
def fn14B0 : Cd :=
  (.seq (.seq (.rg [⟨(some 31), none, .mv (.t 6)⟩,
      ⟨(some 32), none, .bin .neq (.t 31) (.c (.string ⟨#[125]⟩))⟩] [0, 4, 6, 32])
  (.cond (.t 32)
    .skip
    (.exit 0)))
  (.block 1
    (.seq (.rg [⟨(some 33), none, .mv (.t 6)⟩,
        ⟨(some 34), none, .call 2 (.f 38) [(.t 33)]⟩,
        ⟨(some 7), none, .mv (.t 34)⟩] [0, 4, 6, 7])
    (.seq (.seq (.rg [⟨(some 35), none, .mv (.t 7)⟩,
        ⟨(some 36), none, .bin .eql (.t 35) (.c (.int .i64 0))⟩,
        ⟨(some 37), none, .mv (.t 36)⟩,
        ⟨(some 38), some (37, false), .mv (.t 7)⟩,
        ⟨(some 39), some (37, false), .mv (.t 6)⟩,
        ⟨(some 40), some (37, false), .len true (.t 39)⟩,
        ⟨(some 41), some (37, false), .bin .geq (.t 38) (.t 40)⟩,
        ⟨(some 42), none, .pick (.t 37) (.c (.bool true)) (.t 41)⟩,
        ⟨(some 43), none, .mv (.t 42)⟩,
        ⟨(some 44), some (43, false), .mv (.t 6)⟩,
        ⟨(some 45), some (43, false), .mv (.t 7)⟩,
        ⟨(some 46), some (43, false), .ist (.t 44) (.t 45)⟩,
        ⟨(some 47), some (43, false), .bin .neq (.t 46) (.c (.int .u8 61))⟩,
        ⟨(some 48), none, .pick (.t 43) (.c (.bool true)) (.t 47)⟩] [0, 4, 6, 7, 48])
    (.cond (.t 48)
      (.seq (.rg [⟨(some 2), none, .mv (.c (.slice none 0 0))⟩,
          ⟨(some 3), none, .mv (.c (.bool false))⟩] [2, 3])
      .ret)
      .skip))
    (.seq (.rg [⟨(some 50), none, .mv (.t 6)⟩,
        ⟨(some 51), none, .mv (.t 7)⟩,
        ⟨(some 52), none, .bin .add (.t 51) (.c (.int .i64 1))⟩,
        ⟨(some 53), none, .slst (.t 50) (some (.t 52)) none⟩,
        ⟨(some 54), none, .call 2 (.f 39) [(.t 53)]⟩,
        ⟨(some 49), none, .mv (.t 54)⟩,
        ⟨(some 55), none, .ext (.t 49) 0⟩,
        ⟨(some 56), none, .ext (.t 49) 1⟩,
        ⟨(some 8), none, .mv (.t 55)⟩,
        ⟨(some 9), none, .mv (.t 56)⟩] [0, 4, 6, 7, 8, 9])
    (.seq (.seq (.rg [⟨(some 57), none, .mv (.t 9)⟩,
        ⟨(some 58), none, .bin .eql (.t 57) (.c (.int .i64 0))⟩] [0, 4, 6, 7, 8, 9, 58])
    (.cond (.t 58)
      (.seq (.rg [⟨(some 2), none, .mv (.c (.slice none 0 0))⟩,
          ⟨(some 3), none, .mv (.c (.bool false))⟩] [2, 3])
      .ret)
      .skip))
    (.seq (.rg [⟨(some 59), none, .mv (.t 4)⟩,
        ⟨(some 60), none, .mv (.t 6)⟩,
        ⟨(some 61), none, .mv (.t 7)⟩,
        ⟨(some 62), none, .slst (.t 60) none (some (.t 61))⟩,
        ⟨(some 63), none, .mv (.t 8)⟩,
        ⟨(some 64), none, .build [(.str ⟨#[]⟩), (.str ⟨#[]⟩)] [(0, 1, (.t 62)), (1, 1, (.t 63))]⟩,
        ⟨(some 65), none, .bslice 1 2 [(.str ⟨#[]⟩), (.str ⟨#[]⟩)] [(0, (.t 64))]⟩,
        ⟨(some 66), none, .app 2 32 (.t 59) (.t 65)⟩,
        ⟨(some 4), none, .mv (.t 66)⟩] [0, 4, 6, 7, 9])
    (.seq (.rg [⟨(some 67), none, .mv (.t 6)⟩,
        ⟨(some 68), none, .mv (.t 7)⟩,
        ⟨(some 69), none, .bin .add (.t 68) (.c (.int .i64 1))⟩,
        ⟨(some 70), none, .mv (.t 9)⟩,
        ⟨(some 71), none, .bin .add (.t 69) (.t 70)⟩,
        ⟨(some 72), none, .slst (.t 67) (some (.t 71)) none⟩,
        ⟨(some 6), none, .mv (.t 72)⟩] [0, 4, 6])
    (.seq (.seq (.rg [⟨(some 73), none, .mv (.t 6)⟩,
        ⟨(some 74), none, .bin .eql (.t 73) (.c (.string ⟨#[]⟩))⟩,
        ⟨(some 75), none, .mv (.t 74)⟩,
        ⟨(some 76), some (75, false), .mv (.t 6)⟩,
        ⟨(some 77), some (75, false), .bin .neq (.t 76) (.c (.string ⟨#[125]⟩))⟩,
        ⟨(some 78), some (75, false), .mv (.t 77)⟩,
        ⟨(some 79), some (78, true), .mv (.t 6)⟩,
        ⟨(some 80), some (78, true), .ist (.t 79) (.c (.int .i64 0))⟩,
        ⟨(some 81), some (78, true), .bin .neq (.t 80) (.c (.int .u8 44))⟩,
        ⟨(some 82), some (75, false), .pick (.t 78) (.t 81) (.c (.bool false))⟩,
        ⟨(some 83), none, .pick (.t 75) (.c (.bool true)) (.t 82)⟩,
        ⟨(some 84), none, .mv (.t 83)⟩,
        ⟨(some 85), some (84, false), .mv (.t 6)⟩,
        ⟨(some 86), some (84, false), .bin .eql (.t 85) (.c (.string ⟨#[44, 125]⟩))⟩,
        ⟨(some 87), none, .pick (.t 84) (.c (.bool true)) (.t 86)⟩] [0, 4, 6, 87])
    (.cond (.t 87)
      (.seq (.rg [⟨(some 2), none, .mv (.c (.slice none 0 0))⟩,
          ⟨(some 3), none, .mv (.c (.bool false))⟩] [2, 3])
      .ret)
      .skip))
    (.seq (.rg [⟨(some 88), none, .mv (.t 6)⟩,
        ⟨(some 89), none, .ist (.t 88) (.c (.int .i64 0))⟩,
        ⟨(some 90), none, .bin .eql (.t 89) (.c (.int .u8 44))⟩] [0, 4, 6, 90])
    (.cond (.t 90)
      (.rg [⟨(some 91), none, .mv (.t 6)⟩,
          ⟨(some 92), none, .slst (.t 91) (some (.c (.int .i64 1))) none⟩,
          ⟨(some 6), none, .mv (.t 92)⟩] [0, 4, 6])
      .skip)))))))))))
def fn14L0 : Cd := .loop [0, 4, 6] fn14B0
def fn14 : Vs.Fn := ⟨1,
  (.seq (.rg [⟨(some 2), none, .mv (.c (.slice none 0 0))⟩,
      ⟨(some 3), none, .mv (.c (.bool false))⟩] [0])
  (.seq (.rg [⟨(some 4), none, .mv (.c (.slice none 0 0))⟩] [0, 4])
  (.seq (.rg [⟨(some 10), none, .mv (.t 0)⟩,
      ⟨(some 11), none, .call 2 (.f 38) [(.t 10)]⟩,
      ⟨(some 5), none, .mv (.t 11)⟩] [0, 4, 5])
  (.seq (.seq (.rg [⟨(some 12), none, .mv (.t 5)⟩,
      ⟨(some 13), none, .bin .gtr (.t 12) (.c (.int .i64 0))⟩] [0, 4, 5, 13])
  (.cond (.t 13)
    (.rg [⟨(some 14), none, .mv (.t 4)⟩,
        ⟨(some 15), none, .mv (.t 0)⟩,
        ⟨(some 16), none, .mv (.t 5)⟩,
        ⟨(some 17), none, .slst (.t 15) none (some (.t 16))⟩,
        ⟨(some 18), none, .build [(.str ⟨#[]⟩), (.str ⟨#[]⟩)] [(0, 1, (.c (.string ⟨#[95, 95, 110, 97, 109, 101, 95, 95]⟩))), (1, 1, (.t 17))]⟩,
        ⟨(some 19), none, .bslice 1 2 [(.str ⟨#[]⟩), (.str ⟨#[]⟩)] [(0, (.t 18))]⟩,
        ⟨(some 20), none, .app 2 32 (.t 14) (.t 19)⟩,
        ⟨(some 4), none, .mv (.t 20)⟩] [0, 4, 5])
    .skip))
  (.seq (.rg [⟨(some 21), none, .mv (.t 0)⟩,
      ⟨(some 22), none, .mv (.t 5)⟩,
      ⟨(some 23), none, .slst (.t 21) (some (.t 22)) none⟩,
      ⟨(some 6), none, .mv (.t 23)⟩] [0, 4, 6])
  (.seq (.seq (.rg [⟨(some 24), none, .mv (.t 6)⟩,
      ⟨(some 25), none, .bin .neq (.t 24) (.c (.string ⟨#[]⟩))⟩] [0, 4, 6, 25])
  (.cond (.t 25)
    (.seq (.seq (.rg [⟨(some 26), none, .mv (.t 6)⟩,
        ⟨(some 27), none, .ist (.t 26) (.c (.int .i64 0))⟩,
        ⟨(some 28), none, .bin .neq (.t 27) (.c (.int .u8 123))⟩] [0, 4, 6, 28])
    (.cond (.t 28)
      (.seq (.rg [⟨(some 2), none, .mv (.c (.slice none 0 0))⟩,
          ⟨(some 3), none, .mv (.c (.bool false))⟩] [2, 3])
      .ret)
      .skip))
    (.seq (.rg [⟨(some 29), none, .mv (.t 6)⟩,
        ⟨(some 30), none, .slst (.t 29) (some (.c (.int .i64 1))) none⟩,
        ⟨(some 6), none, .mv (.t 30)⟩] [0, 4, 6])
    (.block 0
      fn14L0)))
    .skip))
  (.seq (.rg [⟨(some 93), none, .mv (.t 4)⟩,
      ⟨(some 94), none, .call 0 (.f 40) [(.t 93)]⟩,
      ⟨(some 4), none, .mv (.t 94)⟩] [0, 4])
  (.seq (.seq (.rg [⟨(some 95), none, .mv (.t 4)⟩,
      ⟨(some 96), none, .call 2 (.f 28) [(.t 95)]⟩,
      ⟨(some 97), none, .un .not (.t 96)⟩,
      ⟨(some 98), none, .mv (.t 97)⟩,
      ⟨(some 99), some (98, false), .mv (.t 4)⟩,
      ⟨(some 100), some (98, false), .call 2 (.f 34) [(.t 99)]⟩,
      ⟨(some 101), some (98, false), .mv (.t 0)⟩,
      ⟨(some 102), some (98, false), .bin .neq (.t 100) (.t 101)⟩,
      ⟨(some 103), none, .pick (.t 98) (.c (.bool true)) (.t 102)⟩] [4, 103])
  (.cond (.t 103)
    (.seq (.rg [⟨(some 2), none, .mv (.c (.slice none 0 0))⟩,
        ⟨(some 3), none, .mv (.c (.bool false))⟩] [2, 3])
    .ret)
    .skip))
  (.seq (.rg [⟨(some 104), none, .mv (.t 4)⟩,
      ⟨(some 2), none, .mv (.t 104)⟩,
      ⟨(some 3), none, .mv (.c (.bool true))⟩] [2, 3])
  .ret))))))))),
  [.t 2, .t 3]⟩

/- spillway/spillwaylaw3.same -/
def an15 : Ann := [[0, 1], [0, 1, 10], [4], [0, 1, 5], [0, 1, 5], [0, 1, 5, 14], [0, 1, 5, 25], [4], [0, 1, 5], [4]]
def fn15B0 : Cd :=
  (.seq (.seq (.rg [⟨(some 11), none, .mv (.t 5)⟩,
      ⟨(some 12), none, .mv (.t 0)⟩,
      ⟨(some 13), none, .len false (.t 12)⟩,
      ⟨(some 14), none, .bin .lss (.t 11) (.t 13)⟩] [0, 1, 5, 14])
  (.cond (.t 14)
    .skip
    (.exit 0)))
  (.seq (.block 1
    (.seq (.rg [⟨(some 17), none, .mv (.t 0)⟩,
        ⟨(some 18), none, .mv (.t 5)⟩,
        ⟨(some 19), none, .iad 2 (.t 17) (.t 18)⟩,
        ⟨(some 20), none, .load true 2 (.t 19) false⟩,
        ⟨(some 21), none, .mv (.t 1)⟩,
        ⟨(some 22), none, .mv (.t 5)⟩,
        ⟨(some 23), none, .iad 2 (.t 21) (.t 22)⟩,
        ⟨(some 24), none, .load true 2 (.t 23) false⟩,
        ⟨(some 25), none, .eqs true [2, 2] (.t 20) (.t 24)⟩] [0, 1, 5, 25])
    (.cond (.t 25)
      (.seq (.rg [⟨(some 4), none, .mv (.c (.bool false))⟩] [4])
      .ret)
      .skip)))
  (.rg [⟨(some 15), none, .mv (.t 5)⟩,
      ⟨(some 16), none, .bin .add (.t 15) (.c (.int .i64 1))⟩,
      ⟨(some 5), none, .mv (.t 16)⟩] [0, 1, 5])))
def fn15L0 : Cd := .loop [0, 1, 5] fn15B0
def fn15 : Vs.Fn := ⟨2,
  (.seq (.rg [⟨(some 4), none, .mv (.c (.bool false))⟩] [0, 1])
  (.seq (.seq (.rg [⟨(some 6), none, .mv (.t 0)⟩,
      ⟨(some 7), none, .len false (.t 6)⟩,
      ⟨(some 8), none, .mv (.t 1)⟩,
      ⟨(some 9), none, .len false (.t 8)⟩,
      ⟨(some 10), none, .bin .neq (.t 7) (.t 9)⟩] [0, 1, 10])
  (.cond (.t 10)
    (.seq (.rg [⟨(some 4), none, .mv (.c (.bool false))⟩] [4])
    .ret)
    .skip))
  (.seq (.seq (.rg [⟨(some 5), none, .mv (.c (.int .i64 0))⟩] [0, 1, 5])
  (.block 0
    fn15L0))
  (.seq (.rg [⟨(some 4), none, .mv (.c (.bool true))⟩] [4])
  .ret)))),
  [.t 4]⟩

/- spillway/spillwaylaw3.big -/
def an16 : Ann := [[0], [0, 3], [0, 3], [0, 3, 7], [0, 3, 25], [2], [0, 3], [2]]
def fn16B0 : Cd :=
  (.seq (.seq (.rg [⟨(some 4), none, .mv (.t 3)⟩,
      ⟨(some 5), none, .mv (.t 0)⟩,
      ⟨(some 6), none, .len false (.t 5)⟩,
      ⟨(some 7), none, .bin .lss (.t 4) (.t 6)⟩] [0, 3, 7])
  (.cond (.t 7)
    .skip
    (.exit 0)))
  (.seq (.block 1
    (.seq (.rg [⟨(some 10), none, .mv (.t 0)⟩,
        ⟨(some 11), none, .mv (.t 3)⟩,
        ⟨(some 12), none, .iad 2 (.t 10) (.t 11)⟩,
        ⟨(some 13), none, .fad 0 (.t 12)⟩,
        ⟨(some 14), none, .load false 1 (.t 13) false⟩,
        ⟨(some 15), none, .len true (.t 14)⟩,
        ⟨(some 16), none, .bin .gtr (.t 15) (.c (.int .i64 100))⟩,
        ⟨(some 17), none, .mv (.t 16)⟩,
        ⟨(some 18), some (17, false), .mv (.t 0)⟩,
        ⟨(some 19), some (17, false), .mv (.t 3)⟩,
        ⟨(some 20), some (17, false), .iad 2 (.t 18) (.t 19)⟩,
        ⟨(some 21), some (17, false), .fad 1 (.t 20)⟩,
        ⟨(some 22), some (17, false), .load false 1 (.t 21) false⟩,
        ⟨(some 23), some (17, false), .len true (.t 22)⟩,
        ⟨(some 24), some (17, false), .bin .gtr (.t 23) (.c (.int .i64 100))⟩,
        ⟨(some 25), none, .pick (.t 17) (.c (.bool true)) (.t 24)⟩] [0, 3, 25])
    (.cond (.t 25)
      (.seq (.rg [⟨(some 2), none, .mv (.c (.bool true))⟩] [2])
      .ret)
      .skip)))
  (.rg [⟨(some 8), none, .mv (.t 3)⟩,
      ⟨(some 9), none, .bin .add (.t 8) (.c (.int .i64 1))⟩,
      ⟨(some 3), none, .mv (.t 9)⟩] [0, 3])))
def fn16L0 : Cd := .loop [0, 3] fn16B0
def fn16 : Vs.Fn := ⟨1,
  (.seq (.rg [⟨(some 2), none, .mv (.c (.bool false))⟩] [0])
  (.seq (.seq (.rg [⟨(some 3), none, .mv (.c (.int .i64 0))⟩] [0, 3])
  (.block 0
    fn16L0))
  (.seq (.rg [⟨(some 26), none, .mv (.t 0)⟩,
      ⟨(some 27), none, .len false (.t 26)⟩,
      ⟨(some 28), none, .bin .gtr (.t 27) (.c (.int .i64 20))⟩,
      ⟨(some 2), none, .mv (.t 28)⟩] [2])
  .ret))),
  [.t 2]⟩

/- spillway/label.Is -/
def an17 : Ann := [[0], [0, 5, 6, 7], [0, 5, 6, 7], [0, 5, 6, 7, 8], [0, 3, 4, 5, 6, 7], [2], [2], [0, 5, 6, 7, 36], [2], [0, 5, 6, 7], [2]]
def fn17B0 : Cd :=
  (.seq (.rg [⟨(some 8), none, .bin .lss (.t 7) (.t 6)⟩] [0, 5, 6, 7, 8])
  (.seq (.cond (.t 8)
    .skip
    (.exit 0))
  (.seq (.block 1
    (.seq (.rg [⟨(some 9), none, .mv (.t 7)⟩,
        ⟨(some 10), none, .iad 2 (.t 5) (.t 7)⟩,
        ⟨(some 11), none, .load true 2 (.t 10) false⟩,
        ⟨(some 4), none, .alloc [(.str ⟨#[]⟩), (.str ⟨#[]⟩)]⟩,
        ⟨(some 3), none, .mv (.t 9)⟩,
        ⟨none, none, .store 2 (.t 4) (.t 11)⟩] [0, 3, 4, 5, 6, 7])
    (.seq (.rg [⟨(some 12), none, .fad 0 (.t 4)⟩,
        ⟨(some 13), none, .load false 1 (.t 12) false⟩,
        ⟨(some 14), none, .call 2 (.f 21) [(.t 13)]⟩,
        ⟨(some 15), none, .un .not (.t 14)⟩,
        ⟨(some 16), none, .mv (.t 15)⟩,
        ⟨(some 17), some (16, false), .fad 1 (.t 4)⟩,
        ⟨(some 18), some (16, false), .load false 1 (.t 17) false⟩,
        ⟨(some 19), some (16, false), .call 2 (.f 41) [(.t 18)]⟩,
        ⟨(some 20), some (16, false), .un .not (.t 19)⟩,
        ⟨(some 21), none, .pick (.t 16) (.c (.bool true)) (.t 20)⟩,
        ⟨(some 22), none, .mv (.t 21)⟩,
        ⟨(some 23), some (22, false), .mv (.t 3)⟩,
        ⟨(some 24), some (22, false), .bin .gtr (.t 23) (.c (.int .i64 0))⟩,
        ⟨(some 25), some (22, false), .mv (.t 24)⟩,
        ⟨(some 26), some (25, true), .mv (.t 0)⟩,
        ⟨(some 27), some (25, true), .mv (.t 3)⟩,
        ⟨(some 28), some (25, true), .bin .sub (.t 27) (.c (.int .i64 1))⟩,
        ⟨(some 29), some (25, true), .iad 2 (.t 26) (.t 28)⟩,
        ⟨(some 30), some (25, true), .fad 0 (.t 29)⟩,
        ⟨(some 31), some (25, true), .load false 1 (.t 30) false⟩,
        ⟨(some 32), some (25, true), .fad 0 (.t 4)⟩,
        ⟨(some 33), some (25, true), .load false 1 (.t 32) false⟩,
        ⟨(some 34), some (25, true), .bin .geq (.t 31) (.t 33)⟩,
        ⟨(some 35), some (22, false), .pick (.t 25) (.t 34) (.c (.bool false))⟩,
        ⟨(some 36), none, .pick (.t 22) (.c (.bool true)) (.t 35)⟩] [0, 5, 6, 7, 36])
    (.cond (.t 36)
      (.seq (.rg [⟨(some 2), none, .mv (.c (.bool false))⟩] [2])
      .ret)
      .skip))))
  (.rg [⟨(some 37), none, .bin .add (.t 7) (.c (.int .i64 1))⟩,
      ⟨(some 7), none, .mv (.t 37)⟩] [0, 5, 6, 7]))))
def fn17L0 : Cd := .loop [0, 5, 6, 7] fn17B0
def fn17 : Vs.Fn := ⟨1,
  (.seq (.rg [⟨(some 2), none, .mv (.c (.bool false))⟩] [0])
  (.seq (.seq (.rg [⟨(some 5), none, .mv (.t 0)⟩,
      ⟨(some 6), none, .len false (.t 5)⟩,
      ⟨(some 7), none, .mv (.c (.int .i64 0))⟩] [0, 5, 6, 7])
  (.block 0
    fn17L0))
  (.seq (.rg [⟨(some 38), none, .mv (.t 0)⟩,
      ⟨(some 39), none, .len false (.t 38)⟩,
      ⟨(some 40), none, .bin .leq (.t 39) (.c (.int .i64 8))⟩,
      ⟨(some 2), none, .mv (.t 40)⟩] [2])
  .ret))),
  [.t 2]⟩

/- spillway/label.Print -/
def an18 : Ann := [[0], [2], [0, 10], [2], [2], [0, 3], [1], [0, 3, 4], [2], [0, 3, 4, 17], [3, 4], [3, 4, 25], [2], [3, 4, 5], [3, 5, 27, 28, 29], [3, 5, 27, 28, 29], [3, 5, 27, 28, 29, 30], [3, 5, 7, 27, 28, 29], [2], [3, 5, 27, 28, 29], [3, 5, 27, 28, 29], [2], [2]]
def fn18B0 : Cd :=
  (.seq (.rg [⟨(some 30), none, .bin .lss (.t 29) (.t 28)⟩] [3, 5, 27, 28, 29, 30])
  (.seq (.cond (.t 30)
    .skip
    (.exit 0))
  (.seq (.block 1
    (.seq (.rg [⟨(some 31), none, .iad 2 (.t 27) (.t 29)⟩,
        ⟨(some 32), none, .load true 2 (.t 31) false⟩,
        ⟨(some 7), none, .alloc [(.str ⟨#[]⟩), (.str ⟨#[]⟩)]⟩,
        ⟨none, none, .store 2 (.t 7) (.t 32)⟩] [3, 5, 7, 27, 28, 29])
    (.rg [⟨(some 33), none, .mv (.t 5)⟩,
        ⟨(some 34), none, .fad 0 (.t 7)⟩,
        ⟨(some 35), none, .load false 1 (.t 34) false⟩,
        ⟨(some 36), none, .bin .add (.t 35) (.c (.string ⟨#[61]⟩))⟩,
        ⟨(some 37), none, .fad 1 (.t 7)⟩,
        ⟨(some 38), none, .load false 1 (.t 37) false⟩,
        ⟨(some 39), none, .call 2 (.f 42) [(.t 38)]⟩,
        ⟨(some 40), none, .bin .add (.t 36) (.t 39)⟩,
        ⟨(some 41), none, .bslice 1 1 [(.str ⟨#[]⟩)] [(0, (.t 40))]⟩,
        ⟨(some 42), none, .app 1 16 (.t 33) (.t 41)⟩,
        ⟨(some 5), none, .mv (.t 42)⟩] [3, 5, 27, 28, 29])))
  (.rg [⟨(some 43), none, .bin .add (.t 29) (.c (.int .i64 1))⟩,
      ⟨(some 29), none, .mv (.t 43)⟩] [3, 5, 27, 28, 29]))))
def fn18L0 : Cd := .loop [3, 5, 27, 28, 29] fn18B0
def fn18 : Vs.Fn := ⟨1,
  (.seq (.rg [⟨(some 2), none, .mv (.c (.string ⟨#[]⟩))⟩] [0])
  (.seq (.seq (.rg [⟨(some 8), none, .mv (.t 0)⟩,
      ⟨(some 9), none, .call 2 (.f 17) [(.t 8)]⟩,
      ⟨(some 10), none, .un .not (.t 9)⟩] [0, 10])
  (.cond (.t 10)
    (.seq (.rg [⟨(some 2), none, .mv (.c (.string ⟨#[]⟩))⟩] [2])
    .ret)
    .skip))
  (.seq (.rg [⟨(some 11), none, .mv (.t 0)⟩,
      ⟨(some 12), none, .call 2 (.f 22) [(.t 11), (.c (.string ⟨#[95, 95, 110, 97, 109, 101, 95, 95]⟩))]⟩,
      ⟨(some 3), none, .mv (.t 12)⟩] [0, 3])
  (.seq (.rg [⟨(some 13), none, .mv (.t 0)⟩,
      ⟨(some 14), none, .call 1 (.f 24) [(.t 13), (.c (.slice none 0 0))]⟩,
      ⟨(some 4), none, .mv (.t 14)⟩] [0, 3, 4])
  (.seq (.seq (.rg [⟨(some 15), none, .mv (.t 3)⟩,
      ⟨(some 16), none, .call 2 (.f 21) [(.t 15)]⟩,
      ⟨(some 17), none, .un .not (.t 16)⟩] [0, 3, 4, 17])
  (.cond (.t 17)
    (.rg [⟨(some 18), none, .mv (.t 0)⟩,
        ⟨(some 3), none, .mv (.c (.string ⟨#[]⟩))⟩,
        ⟨(some 4), none, .mv (.t 18)⟩] [3, 4])
    .skip))
  (.seq (.seq (.rg [⟨(some 19), none, .mv (.t 4)⟩,
      ⟨(some 20), none, .len false (.t 19)⟩,
      ⟨(some 21), none, .bin .eql (.t 20) (.c (.int .i64 0))⟩,
      ⟨(some 22), none, .mv (.t 21)⟩,
      ⟨(some 23), some (22, true), .mv (.t 3)⟩,
      ⟨(some 24), some (22, true), .bin .neq (.t 23) (.c (.string ⟨#[]⟩))⟩,
      ⟨(some 25), none, .pick (.t 22) (.t 24) (.c (.bool false))⟩] [3, 4, 25])
  (.cond (.t 25)
    (.seq (.rg [⟨(some 26), none, .mv (.t 3)⟩,
        ⟨(some 2), none, .mv (.t 26)⟩] [2])
    .ret)
    .skip))
  (.seq (.rg [⟨(some 5), none, .mv (.c (.slice none 0 0))⟩] [3, 4, 5])
  (.seq (.seq (.rg [⟨(some 27), none, .mv (.t 4)⟩,
      ⟨(some 28), none, .len false (.t 27)⟩,
      ⟨(some 29), none, .mv (.c (.int .i64 0))⟩] [3, 5, 27, 28, 29])
  (.block 0
    fn18L0))
  (.seq (.rg [⟨(some 44), none, .mv (.t 3)⟩,
      ⟨(some 45), none, .bin .add (.t 44) (.c (.string ⟨#[123]⟩))⟩,
      ⟨(some 46), none, .mv (.t 5)⟩,
      ⟨(some 47), none, .call 2 (.f 43) [(.t 46), (.c (.string ⟨#[44]⟩))]⟩,
      ⟨(some 48), none, .bin .add (.t 45) (.t 47)⟩,
      ⟨(some 49), none, .bin .add (.t 48) (.c (.string ⟨#[125]⟩))⟩,
      ⟨(some 2), none, .mv (.t 49)⟩] [2])
  .ret))))))))),
  [.t 2]⟩

/- spillway/label.Cmp -/
def an19 : Ann := [[0, 1], [2], [4]]
def fn19 : Vs.Fn := ⟨2,
  (.seq (.rg [⟨(some 4), none, .mv (.c (.int .i64 0))⟩] [0, 1])
  (.seq (.rg [⟨(some 5), none, .mv (.t 0)⟩,
      ⟨(some 6), none, .mv (.t 1)⟩,
      ⟨(some 7), none, .call 2 (.f 44) [(.t 5), (.t 6), (.f 45)]⟩,
      ⟨(some 4), none, .mv (.t 7)⟩] [4])
  .ret)),
  [.t 4]⟩

/- spillway/label.Make -/
def an20 : Ann := [[0], [0], [4], [0], [4], [4, 5], [4, 5], [4, 5, 13], [4, 5, 27], [2, 3], [4, 5], [0], [4], [2], [4, 32], [2, 3], [2, 3]]
def fn20B0 : Cd :=
  (.seq (.seq (.rg [⟨(some 10), none, .mv (.t 5)⟩,
      ⟨(some 11), none, .mv (.t 4)⟩,
      ⟨(some 12), none, .len false (.t 11)⟩,
      ⟨(some 13), none, .bin .lss (.t 10) (.t 12)⟩] [4, 5, 13])
  (.cond (.t 13)
    .skip
    (.exit 0)))
  (.seq (.block 1
    (.seq (.rg [⟨(some 16), none, .mv (.t 4)⟩,
        ⟨(some 17), none, .mv (.t 5)⟩,
        ⟨(some 18), none, .bin .sub (.t 17) (.c (.int .i64 1))⟩,
        ⟨(some 19), none, .iad 2 (.t 16) (.t 18)⟩,
        ⟨(some 20), none, .fad 0 (.t 19)⟩,
        ⟨(some 21), none, .load false 1 (.t 20) false⟩,
        ⟨(some 22), none, .mv (.t 4)⟩,
        ⟨(some 23), none, .mv (.t 5)⟩,
        ⟨(some 24), none, .iad 2 (.t 22) (.t 23)⟩,
        ⟨(some 25), none, .fad 0 (.t 24)⟩,
        ⟨(some 26), none, .load false 1 (.t 25) false⟩,
        ⟨(some 27), none, .bin .eql (.t 21) (.t 26)⟩] [4, 5, 27])
    (.cond (.t 27)
      (.seq (.rg [⟨(some 2), none, .mv (.c (.slice none 0 0))⟩,
          ⟨(some 3), none, .mv (.c (.int .i64 31))⟩] [2, 3])
      .ret)
      .skip)))
  (.rg [⟨(some 14), none, .mv (.t 5)⟩,
      ⟨(some 15), none, .bin .add (.t 14) (.c (.int .i64 1))⟩,
      ⟨(some 5), none, .mv (.t 15)⟩] [4, 5])))
def fn20L0 : Cd := .loop [4, 5] fn20B0
def fn20 : Vs.Fn := ⟨1,
  (.seq (.rg [⟨(some 2), none, .mv (.c (.slice none 0 0))⟩,
      ⟨(some 3), none, .mv (.c (.int .i64 0))⟩] [0])
  (.seq (.rg [⟨(some 6), none, .mv (.t 0)⟩,
      ⟨(some 7), none, .call 0 (.f 48) [(.t 6)]⟩,
      ⟨(some 4), none, .mv (.t 7)⟩] [4])
  (.seq (.rg [⟨(some 8), none, .mv (.t 4)⟩,
      ⟨(some 9), none, .call 0 (.f 49) [(.t 8), (.f 50)]⟩] [4])
  (.seq (.seq (.rg [⟨(some 5), none, .mv (.c (.int .i64 1))⟩] [4, 5])
  (.block 0
    fn20L0))
  (.seq (.rg [⟨(some 28), none, .mv (.t 4)⟩,
      ⟨(some 29), none, .call 0 (.f 51) [(.t 28), (.f 52)]⟩,
      ⟨(some 4), none, .mv (.t 29)⟩] [4])
  (.seq (.seq (.rg [⟨(some 30), none, .mv (.t 4)⟩,
      ⟨(some 31), none, .call 2 (.f 17) [(.t 30)]⟩,
      ⟨(some 32), none, .un .not (.t 31)⟩] [4, 32])
  (.cond (.t 32)
    (.seq (.rg [⟨(some 2), none, .mv (.c (.slice none 0 0))⟩,
        ⟨(some 3), none, .mv (.c (.int .i64 30))⟩] [2, 3])
    .ret)
    .skip))
  (.seq (.rg [⟨(some 33), none, .mv (.t 4)⟩,
      ⟨(some 2), none, .mv (.t 33)⟩,
      ⟨(some 3), none, .mv (.c (.int .i64 0))⟩] [2, 3])
  .ret))))))),
  [.t 2, .t 3]⟩

/- spillway/label.Name -/
def an21 : Ann := [[0], [0, 6, 7], [0, 6, 7], [0, 6, 7, 8], [0, 3, 6, 7], [0, 3, 4, 6, 7], [0, 6, 7, 43], [2], [0, 6, 7], [2]]
def fn21B0 : Cd :=
  (.seq (.rg [⟨(some 8), none, .bin .lss (.t 7) (.t 6)⟩] [0, 6, 7, 8])
  (.seq (.cond (.t 8)
    .skip
    (.exit 0))
  (.seq (.block 1
    (.seq (.rg [⟨(some 9), none, .mv (.t 7)⟩,
        ⟨(some 3), none, .mv (.t 9)⟩] [0, 3, 6, 7])
    (.seq (.rg [⟨(some 10), none, .mv (.t 0)⟩,
        ⟨(some 11), none, .mv (.t 3)⟩,
        ⟨(some 12), none, .ist (.t 10) (.t 11)⟩,
        ⟨(some 4), none, .mv (.t 12)⟩] [0, 3, 4, 6, 7])
    (.seq (.rg [⟨(some 13), none, .mv (.t 4)⟩,
        ⟨(some 14), none, .bin .geq (.t 13) (.c (.int .u8 97))⟩,
        ⟨(some 15), none, .mv (.t 14)⟩,
        ⟨(some 16), some (15, true), .mv (.t 4)⟩,
        ⟨(some 17), some (15, true), .bin .leq (.t 16) (.c (.int .u8 122))⟩,
        ⟨(some 18), none, .pick (.t 15) (.t 17) (.c (.bool false))⟩,
        ⟨(some 19), none, .mv (.t 18)⟩,
        ⟨(some 20), some (19, false), .mv (.t 4)⟩,
        ⟨(some 21), some (19, false), .bin .geq (.t 20) (.c (.int .u8 65))⟩,
        ⟨(some 22), some (19, false), .mv (.t 21)⟩,
        ⟨(some 23), some (22, true), .mv (.t 4)⟩,
        ⟨(some 24), some (22, true), .bin .leq (.t 23) (.c (.int .u8 90))⟩,
        ⟨(some 25), some (19, false), .pick (.t 22) (.t 24) (.c (.bool false))⟩,
        ⟨(some 26), none, .pick (.t 19) (.c (.bool true)) (.t 25)⟩,
        ⟨(some 27), none, .mv (.t 26)⟩,
        ⟨(some 28), some (27, false), .mv (.t 4)⟩,
        ⟨(some 29), some (27, false), .bin .eql (.t 28) (.c (.int .u8 95))⟩,
        ⟨(some 30), none, .pick (.t 27) (.c (.bool true)) (.t 29)⟩,
        ⟨(some 31), none, .mv (.t 30)⟩,
        ⟨(some 32), some (31, false), .mv (.t 4)⟩,
        ⟨(some 33), some (31, false), .bin .geq (.t 32) (.c (.int .u8 48))⟩,
        ⟨(some 34), some (31, false), .mv (.t 33)⟩,
        ⟨(some 35), some (34, true), .mv (.t 4)⟩,
        ⟨(some 36), some (34, true), .bin .leq (.t 35) (.c (.int .u8 57))⟩,
        ⟨(some 37), some (31, false), .pick (.t 34) (.t 36) (.c (.bool false))⟩,
        ⟨(some 38), some (31, false), .mv (.t 37)⟩,
        ⟨(some 39), some (38, true), .mv (.t 3)⟩,
        ⟨(some 40), some (38, true), .bin .gtr (.t 39) (.c (.int .i64 0))⟩,
        ⟨(some 41), some (31, false), .pick (.t 38) (.t 40) (.c (.bool false))⟩,
        ⟨(some 42), none, .pick (.t 31) (.c (.bool true)) (.t 41)⟩,
        ⟨(some 43), none, .un .not (.t 42)⟩] [0, 6, 7, 43])
    (.cond (.t 43)
      (.seq (.rg [⟨(some 2), none, .mv (.c (.bool false))⟩] [2])
      .ret)
      .skip)))))
  (.rg [⟨(some 44), none, .bin .add (.t 7) (.c (.int .i64 1))⟩,
      ⟨(some 7), none, .mv (.t 44)⟩] [0, 6, 7]))))
def fn21L0 : Cd := .loop [0, 6, 7] fn21B0
def fn21 : Vs.Fn := ⟨1,
  (.seq (.rg [⟨(some 2), none, .mv (.c (.bool false))⟩] [0])
  (.seq (.seq (.rg [⟨(some 5), none, .mv (.t 0)⟩,
      ⟨(some 6), none, .len true (.t 5)⟩,
      ⟨(some 7), none, .mv (.c (.int .i64 0))⟩] [0, 6, 7])
  (.block 0
    fn21L0))
  (.seq (.rg [⟨(some 45), none, .mv (.t 0)⟩,
      ⟨(some 46), none, .len true (.t 45)⟩,
      ⟨(some 47), none, .bin .geq (.t 46) (.c (.int .i64 1))⟩,
      ⟨(some 48), none, .mv (.t 47)⟩,
      ⟨(some 49), some (48, true), .mv (.t 0)⟩,
      ⟨(some 50), some (48, true), .len true (.t 49)⟩,
      ⟨(some 51), some (48, true), .bin .leq (.t 50) (.c (.int .i64 20))⟩,
      ⟨(some 52), none, .pick (.t 48) (.t 51) (.c (.bool false))⟩,
      ⟨(some 2), none, .mv (.t 52)⟩] [2])
  .ret))),
  [.t 2]⟩

/- spillway/label.Get -/
def an22 : Ann := [[0, 1], [1, 7, 8, 9], [1, 7, 8, 9], [1, 7, 8, 9, 10], [1, 6, 7, 8, 9], [1, 6, 7, 8, 9, 16], [4], [1, 7, 8, 9], [4]]
def fn22B0 : Cd :=
  (.seq (.rg [⟨(some 10), none, .bin .lss (.t 9) (.t 8)⟩] [1, 7, 8, 9, 10])
  (.seq (.cond (.t 10)
    .skip
    (.exit 0))
  (.seq (.block 1
    (.seq (.rg [⟨(some 11), none, .iad 2 (.t 7) (.t 9)⟩,
        ⟨(some 12), none, .load true 2 (.t 11) false⟩,
        ⟨(some 6), none, .alloc [(.str ⟨#[]⟩), (.str ⟨#[]⟩)]⟩,
        ⟨none, none, .store 2 (.t 6) (.t 12)⟩] [1, 6, 7, 8, 9])
    (.seq (.rg [⟨(some 13), none, .fad 0 (.t 6)⟩,
        ⟨(some 14), none, .load false 1 (.t 13) false⟩,
        ⟨(some 15), none, .mv (.t 1)⟩,
        ⟨(some 16), none, .bin .eql (.t 14) (.t 15)⟩] [1, 6, 7, 8, 9, 16])
    (.cond (.t 16)
      (.seq (.rg [⟨(some 17), none, .fad 1 (.t 6)⟩,
          ⟨(some 18), none, .load false 1 (.t 17) false⟩,
          ⟨(some 4), none, .mv (.t 18)⟩] [4])
      .ret)
      .skip))))
  (.rg [⟨(some 19), none, .bin .add (.t 9) (.c (.int .i64 1))⟩,
      ⟨(some 9), none, .mv (.t 19)⟩] [1, 7, 8, 9]))))
def fn22L0 : Cd := .loop [1, 7, 8, 9] fn22B0
def fn22 : Vs.Fn := ⟨2,
  (.seq (.rg [⟨(some 4), none, .mv (.c (.string ⟨#[]⟩))⟩] [0, 1])
  (.seq (.seq (.rg [⟨(some 7), none, .mv (.t 0)⟩,
      ⟨(some 8), none, .len false (.t 7)⟩,
      ⟨(some 9), none, .mv (.c (.int .i64 0))⟩] [1, 7, 8, 9])
  (.block 0
    fn22L0))
  (.seq (.rg [⟨(some 4), none, .mv (.c (.string ⟨#[]⟩))⟩] [4])
  .ret))),
  [.t 4]⟩

/- spillway/label.Keep -/
def an23 : Ann := [[0, 3], [0], [4]]
def fn23 : Vs.Fn := ⟨2,
  (.seq (.rg [⟨(some 3), none, .box 1 (.t 1)⟩,
      ⟨(some 4), none, .mv (.c (.slice none 0 0))⟩] [0, 3])
  (.seq (.rg [⟨(some 5), none, .mv (.t 0)⟩,
      ⟨(some 6), none, .mkf 54 [(.t 3)]⟩,
      ⟨(some 7), none, .call 0 (.f 53) [(.t 5), (.t 6)]⟩,
      ⟨(some 4), none, .mv (.t 7)⟩] [4])
  .ret)),
  [.t 4]⟩

/- spillway/label.Without -/
def an24 : Ann := [[0, 3], [0], [4]]
def fn24 : Vs.Fn := ⟨2,
  (.seq (.rg [⟨(some 3), none, .box 1 (.t 1)⟩,
      ⟨(some 4), none, .mv (.c (.slice none 0 0))⟩] [0, 3])
  (.seq (.rg [⟨(some 5), none, .mv (.t 0)⟩,
      ⟨(some 6), none, .mkf 56 [(.t 3)]⟩,
      ⟨(some 7), none, .call 0 (.f 53) [(.t 5), (.t 6)]⟩,
      ⟨(some 4), none, .mv (.t 7)⟩] [4])
  .ret)),
  [.t 4]⟩

/- spillway/label.With -/
def an25 : Ann := [[0, 1], [2], [0, 1, 13], [4, 5], [0], [1, 6], [6, 16, 17, 18], [6, 16, 17, 18], [6, 16, 17, 18, 19], [6, 8, 16, 17, 18], [2], [6, 8, 9, 10, 16, 17, 18], [6, 8, 9, 10, 16, 17, 18, 28], [0], [6, 16, 17, 18], [6, 8, 9, 16, 17, 18, 40], [6, 16, 17, 18], [6, 8, 9, 16, 17, 18, 46], [0], [6, 16, 17, 18], [6, 16, 17, 18], [2], [6, 58], [4, 5], [4, 5]]
def fn25B0 : Cd :=
  (.seq (.rg [⟨(some 19), none, .bin .lss (.t 18) (.t 17)⟩] [6, 16, 17, 18, 19])
  (.seq (.cond (.t 19)
    .skip
    (.exit 0))
  (.seq (.block 1
    (.seq (.rg [⟨(some 20), none, .iad 2 (.t 16) (.t 18)⟩,
        ⟨(some 21), none, .load true 2 (.t 20) false⟩,
        ⟨(some 8), none, .alloc [(.str ⟨#[]⟩), (.str ⟨#[]⟩)]⟩,
        ⟨none, none, .store 2 (.t 8) (.t 21)⟩] [6, 8, 16, 17, 18])
    (.seq (.rg [⟨(some 23), none, .mv (.t 6)⟩,
        ⟨(some 24), none, .load true 2 (.t 8) false⟩,
        ⟨(some 25), none, .call 2 (.f 57) [(.t 23), (.t 24), (.f 50)]⟩,
        ⟨(some 22), none, .mv (.t 25)⟩,
        ⟨(some 26), none, .ext (.t 22) 0⟩,
        ⟨(some 27), none, .ext (.t 22) 1⟩,
        ⟨(some 9), none, .mv (.t 26)⟩,
        ⟨(some 10), none, .mv (.t 27)⟩] [6, 8, 9, 10, 16, 17, 18])
    (.block 2
      (.seq (.rg [⟨(some 29), none, .mv (.t 10)⟩,
          ⟨(some 30), none, .mv (.t 29)⟩,
          ⟨(some 31), some (30, true), .fad 1 (.t 8)⟩,
          ⟨(some 32), some (30, true), .load false 1 (.t 31) false⟩,
          ⟨(some 33), some (30, true), .bin .eql (.t 32) (.c (.string ⟨#[]⟩))⟩,
          ⟨(some 34), none, .pick (.t 30) (.t 33) (.c (.bool false))⟩,
          ⟨(some 28), none, .mv (.t 34)⟩] [6, 8, 9, 10, 16, 17, 18, 28])
      (.cond (.t 28)
        (.rg [⟨(some 35), none, .mv (.t 6)⟩,
            ⟨(some 36), none, .mv (.t 9)⟩,
            ⟨(some 37), none, .mv (.t 9)⟩,
            ⟨(some 38), none, .bin .add (.t 37) (.c (.int .i64 1))⟩,
            ⟨(some 39), none, .call 0 (.f 58) [(.t 35), (.t 36), (.t 38)]⟩,
            ⟨(some 6), none, .mv (.t 39)⟩] [6, 16, 17, 18])
        (.seq (.rg [⟨(some 41), none, .mv (.t 10)⟩,
            ⟨(some 40), none, .mv (.t 41)⟩] [6, 8, 9, 16, 17, 18, 40])
        (.cond (.t 40)
          (.rg [⟨(some 42), none, .mv (.t 6)⟩,
              ⟨(some 43), none, .mv (.t 9)⟩,
              ⟨(some 44), none, .load true 2 (.t 8) false⟩,
              ⟨(some 45), none, .iad 2 (.t 42) (.t 43)⟩,
              ⟨none, none, .store 2 (.t 45) (.t 44)⟩] [6, 16, 17, 18])
          (.seq (.rg [⟨(some 47), none, .fad 1 (.t 8)⟩,
              ⟨(some 48), none, .load false 1 (.t 47) false⟩,
              ⟨(some 49), none, .bin .neq (.t 48) (.c (.string ⟨#[]⟩))⟩,
              ⟨(some 46), none, .mv (.t 49)⟩] [6, 8, 9, 16, 17, 18, 46])
          (.cond (.t 46)
            (.rg [⟨(some 50), none, .mv (.t 6)⟩,
                ⟨(some 51), none, .mv (.t 9)⟩,
                ⟨(some 52), none, .load true 2 (.t 8) false⟩,
                ⟨(some 53), none, .bslice 1 2 [(.str ⟨#[]⟩), (.str ⟨#[]⟩)] [(0, (.t 52))]⟩,
                ⟨(some 54), none, .call 0 (.f 59) [(.t 50), (.t 51), (.t 53)]⟩,
                ⟨(some 6), none, .mv (.t 54)⟩] [6, 16, 17, 18])
            .skip))))))))))
  (.rg [⟨(some 55), none, .bin .add (.t 18) (.c (.int .i64 1))⟩,
      ⟨(some 18), none, .mv (.t 55)⟩] [6, 16, 17, 18]))))
def fn25L0 : Cd := .loop [6, 16, 17, 18] fn25B0
def fn25 : Vs.Fn := ⟨2,
  (.seq (.rg [⟨(some 4), none, .mv (.c (.slice none 0 0))⟩,
      ⟨(some 5), none, .mv (.c (.int .i64 0))⟩] [0, 1])
  (.seq (.seq (.rg [⟨(some 11), none, .mv (.t 0)⟩,
      ⟨(some 12), none, .call 2 (.f 17) [(.t 11)]⟩,
      ⟨(some 13), none, .un .not (.t 12)⟩] [0, 1, 13])
  (.cond (.t 13)
    (.seq (.rg [⟨(some 4), none, .mv (.c (.slice none 0 0))⟩,
        ⟨(some 5), none, .mv (.c (.int .i64 30))⟩] [4, 5])
    .ret)
    .skip))
  (.seq (.rg [⟨(some 14), none, .mv (.t 0)⟩,
      ⟨(some 15), none, .call 0 (.f 48) [(.t 14)]⟩,
      ⟨(some 6), none, .mv (.t 15)⟩] [1, 6])
  (.seq (.seq (.rg [⟨(some 16), none, .mv (.t 1)⟩,
      ⟨(some 17), none, .len false (.t 16)⟩,
      ⟨(some 18), none, .mv (.c (.int .i64 0))⟩] [6, 16, 17, 18])
  (.block 0
    fn25L0))
  (.seq (.seq (.rg [⟨(some 56), none, .mv (.t 6)⟩,
      ⟨(some 57), none, .call 2 (.f 17) [(.t 56)]⟩,
      ⟨(some 58), none, .un .not (.t 57)⟩] [6, 58])
  (.cond (.t 58)
    (.seq (.rg [⟨(some 4), none, .mv (.c (.slice none 0 0))⟩,
        ⟨(some 5), none, .mv (.c (.int .i64 30))⟩] [4, 5])
    .ret)
    .skip))
  (.seq (.rg [⟨(some 59), none, .mv (.t 6)⟩,
      ⟨(some 4), none, .mv (.t 59)⟩,
      ⟨(some 5), none, .mv (.c (.int .i64 0))⟩] [4, 5])
  .ret)))))),
  [.t 4, .t 5]⟩

/- spillway/spillwayref3.Is -/
def an28 : Ann := [[0], [0, 3], [0, 3], [0, 3, 7], [2], [2], [0, 3, 51], [2], [0, 3], [2]]
def fn28B0 : Cd :=
  (.seq (.seq (.rg [⟨(some 4), none, .mv (.t 3)⟩,
      ⟨(some 5), none, .mv (.t 0)⟩,
      ⟨(some 6), none, .len false (.t 5)⟩,
      ⟨(some 7), none, .bin .lss (.t 4) (.t 6)⟩] [0, 3, 7])
  (.cond (.t 7)
    .skip
    (.exit 0)))
  (.seq (.block 1
    (.seq (.rg [⟨(some 10), none, .mv (.t 0)⟩,
        ⟨(some 11), none, .mv (.t 3)⟩,
        ⟨(some 12), none, .iad 2 (.t 10) (.t 11)⟩,
        ⟨(some 13), none, .fad 0 (.t 12)⟩,
        ⟨(some 14), none, .load false 1 (.t 13) false⟩,
        ⟨(some 15), none, .call 2 (.f 29) [(.t 14)]⟩,
        ⟨(some 16), none, .un .not (.t 15)⟩,
        ⟨(some 17), none, .mv (.t 16)⟩,
        ⟨(some 18), some (17, false), .mv (.t 0)⟩,
        ⟨(some 19), some (17, false), .mv (.t 3)⟩,
        ⟨(some 20), some (17, false), .iad 2 (.t 18) (.t 19)⟩,
        ⟨(some 21), some (17, false), .fad 1 (.t 20)⟩,
        ⟨(some 22), some (17, false), .load false 1 (.t 21) false⟩,
        ⟨(some 23), some (17, false), .bin .eql (.t 22) (.c (.string ⟨#[]⟩))⟩,
        ⟨(some 24), none, .pick (.t 17) (.c (.bool true)) (.t 23)⟩,
        ⟨(some 25), none, .mv (.t 24)⟩,
        ⟨(some 26), some (25, false), .mv (.t 0)⟩,
        ⟨(some 27), some (25, false), .mv (.t 3)⟩,
        ⟨(some 28), some (25, false), .iad 2 (.t 26) (.t 27)⟩,
        ⟨(some 29), some (25, false), .fad 1 (.t 28)⟩,
        ⟨(some 30), some (25, false), .load false 1 (.t 29) false⟩,
        ⟨(some 31), some (25, false), .call 2 (.f 60) [(.t 30)]⟩,
        ⟨(some 32), some (25, false), .un .not (.t 31)⟩,
        ⟨(some 33), none, .pick (.t 25) (.c (.bool true)) (.t 32)⟩,
        ⟨(some 34), none, .mv (.t 33)⟩,
        ⟨(some 35), some (34, false), .mv (.t 3)⟩,
        ⟨(some 36), some (34, false), .bin .gtr (.t 35) (.c (.int .i64 0))⟩,
        ⟨(some 37), some (34, false), .mv (.t 36)⟩,
        ⟨(some 38), some (37, true), .mv (.t 0)⟩,
        ⟨(some 39), some (37, true), .mv (.t 3)⟩,
        ⟨(some 40), some (37, true), .bin .sub (.t 39) (.c (.int .i64 1))⟩,
        ⟨(some 41), some (37, true), .iad 2 (.t 38) (.t 40)⟩,
        ⟨(some 42), some (37, true), .fad 0 (.t 41)⟩,
        ⟨(some 43), some (37, true), .load false 1 (.t 42) false⟩,
        ⟨(some 44), some (37, true), .mv (.t 0)⟩,
        ⟨(some 45), some (37, true), .mv (.t 3)⟩,
        ⟨(some 46), some (37, true), .iad 2 (.t 44) (.t 45)⟩,
        ⟨(some 47), some (37, true), .fad 0 (.t 46)⟩,
        ⟨(some 48), some (37, true), .load false 1 (.t 47) false⟩,
        ⟨(some 49), some (37, true), .bin .geq (.t 43) (.t 48)⟩,
        ⟨(some 50), some (34, false), .pick (.t 37) (.t 49) (.c (.bool false))⟩,
        ⟨(some 51), none, .pick (.t 34) (.c (.bool true)) (.t 50)⟩] [0, 3, 51])
    (.cond (.t 51)
      (.seq (.rg [⟨(some 2), none, .mv (.c (.bool false))⟩] [2])
      .ret)
      .skip)))
  (.rg [⟨(some 8), none, .mv (.t 3)⟩,
      ⟨(some 9), none, .bin .add (.t 8) (.c (.int .i64 1))⟩,
      ⟨(some 3), none, .mv (.t 9)⟩] [0, 3])))
def fn28L0 : Cd := .loop [0, 3] fn28B0
def fn28 : Vs.Fn := ⟨1,
  (.seq (.rg [⟨(some 2), none, .mv (.c (.bool false))⟩] [0])
  (.seq (.seq (.rg [⟨(some 3), none, .mv (.c (.int .i64 0))⟩] [0, 3])
  (.block 0
    fn28L0))
  (.seq (.rg [⟨(some 52), none, .mv (.t 0)⟩,
      ⟨(some 53), none, .len false (.t 52)⟩,
      ⟨(some 54), none, .bin .leq (.t 53) (.c (.int .i64 8))⟩,
      ⟨(some 2), none, .mv (.t 54)⟩] [2])
  .ret))),
  [.t 2]⟩

/- spillway/spillwayref3.Name -/
def an29 : Ann := [[0], [0, 3], [0, 3], [0, 3, 8], [0, 3, 4], [0, 3, 44], [2], [0, 3], [2]]
def fn29B0 : Cd :=
  (.seq (.seq (.rg [⟨(some 5), none, .mv (.t 3)⟩,
      ⟨(some 6), none, .mv (.t 0)⟩,
      ⟨(some 7), none, .len true (.t 6)⟩,
      ⟨(some 8), none, .bin .lss (.t 5) (.t 7)⟩] [0, 3, 8])
  (.cond (.t 8)
    .skip
    (.exit 0)))
  (.seq (.block 1
    (.seq (.rg [⟨(some 11), none, .mv (.t 0)⟩,
        ⟨(some 12), none, .mv (.t 3)⟩,
        ⟨(some 13), none, .ist (.t 11) (.t 12)⟩,
        ⟨(some 4), none, .mv (.t 13)⟩] [0, 3, 4])
    (.seq (.rg [⟨(some 14), none, .mv (.t 4)⟩,
        ⟨(some 15), none, .bin .geq (.t 14) (.c (.int .u8 97))⟩,
        ⟨(some 16), none, .mv (.t 15)⟩,
        ⟨(some 17), some (16, true), .mv (.t 4)⟩,
        ⟨(some 18), some (16, true), .bin .leq (.t 17) (.c (.int .u8 122))⟩,
        ⟨(some 19), none, .pick (.t 16) (.t 18) (.c (.bool false))⟩,
        ⟨(some 20), none, .mv (.t 19)⟩,
        ⟨(some 21), some (20, false), .mv (.t 4)⟩,
        ⟨(some 22), some (20, false), .bin .geq (.t 21) (.c (.int .u8 65))⟩,
        ⟨(some 23), some (20, false), .mv (.t 22)⟩,
        ⟨(some 24), some (23, true), .mv (.t 4)⟩,
        ⟨(some 25), some (23, true), .bin .leq (.t 24) (.c (.int .u8 90))⟩,
        ⟨(some 26), some (20, false), .pick (.t 23) (.t 25) (.c (.bool false))⟩,
        ⟨(some 27), none, .pick (.t 20) (.c (.bool true)) (.t 26)⟩,
        ⟨(some 28), none, .mv (.t 27)⟩,
        ⟨(some 29), some (28, false), .mv (.t 4)⟩,
        ⟨(some 30), some (28, false), .bin .eql (.t 29) (.c (.int .u8 95))⟩,
        ⟨(some 31), none, .pick (.t 28) (.c (.bool true)) (.t 30)⟩,
        ⟨(some 32), none, .mv (.t 31)⟩,
        ⟨(some 33), some (32, false), .mv (.t 3)⟩,
        ⟨(some 34), some (32, false), .bin .gtr (.t 33) (.c (.int .i64 0))⟩,
        ⟨(some 35), some (32, false), .mv (.t 34)⟩,
        ⟨(some 36), some (35, true), .mv (.t 4)⟩,
        ⟨(some 37), some (35, true), .bin .geq (.t 36) (.c (.int .u8 48))⟩,
        ⟨(some 38), some (32, false), .pick (.t 35) (.t 37) (.c (.bool false))⟩,
        ⟨(some 39), some (32, false), .mv (.t 38)⟩,
        ⟨(some 40), some (39, true), .mv (.t 4)⟩,
        ⟨(some 41), some (39, true), .bin .leq (.t 40) (.c (.int .u8 57))⟩,
        ⟨(some 42), some (32, false), .pick (.t 39) (.t 41) (.c (.bool false))⟩,
        ⟨(some 43), none, .pick (.t 32) (.c (.bool true)) (.t 42)⟩,
        ⟨(some 44), none, .un .not (.t 43)⟩] [0, 3, 44])
    (.cond (.t 44)
      (.seq (.rg [⟨(some 2), none, .mv (.c (.bool false))⟩] [2])
      .ret)
      .skip))))
  (.rg [⟨(some 9), none, .mv (.t 3)⟩,
      ⟨(some 10), none, .bin .add (.t 9) (.c (.int .i64 1))⟩,
      ⟨(some 3), none, .mv (.t 10)⟩] [0, 3])))
def fn29L0 : Cd := .loop [0, 3] fn29B0
def fn29 : Vs.Fn := ⟨1,
  (.seq (.rg [⟨(some 2), none, .mv (.c (.bool false))⟩] [0])
  (.seq (.seq (.rg [⟨(some 3), none, .mv (.c (.int .i64 0))⟩] [0, 3])
  (.block 0
    fn29L0))
  (.seq (.rg [⟨(some 45), none, .mv (.t 0)⟩,
      ⟨(some 46), none, .len true (.t 45)⟩,
      ⟨(some 47), none, .bin .geq (.t 46) (.c (.int .i64 1))⟩,
      ⟨(some 48), none, .mv (.t 47)⟩,
      ⟨(some 49), some (48, true), .mv (.t 0)⟩,
      ⟨(some 50), some (48, true), .len true (.t 49)⟩,
      ⟨(some 51), some (48, true), .bin .leq (.t 50) (.c (.int .i64 20))⟩,
      ⟨(some 52), none, .pick (.t 48) (.t 51) (.c (.bool false))⟩,
      ⟨(some 2), none, .mv (.t 52)⟩] [2])
  .ret))),
  [.t 2]⟩

/- spillway/spillwayref3.Get -/
def an30 : Ann := [[0, 1], [0, 1, 5], [0, 1, 5], [0, 1, 5, 9], [0, 1, 5, 18], [4], [0, 1, 5], [4]]
def fn30B0 : Cd :=
  (.seq (.seq (.rg [⟨(some 6), none, .mv (.t 5)⟩,
      ⟨(some 7), none, .mv (.t 0)⟩,
      ⟨(some 8), none, .len false (.t 7)⟩,
      ⟨(some 9), none, .bin .lss (.t 6) (.t 8)⟩] [0, 1, 5, 9])
  (.cond (.t 9)
    .skip
    (.exit 0)))
  (.seq (.block 1
    (.seq (.rg [⟨(some 12), none, .mv (.t 0)⟩,
        ⟨(some 13), none, .mv (.t 5)⟩,
        ⟨(some 14), none, .iad 2 (.t 12) (.t 13)⟩,
        ⟨(some 15), none, .fad 0 (.t 14)⟩,
        ⟨(some 16), none, .load false 1 (.t 15) false⟩,
        ⟨(some 17), none, .mv (.t 1)⟩,
        ⟨(some 18), none, .bin .eql (.t 16) (.t 17)⟩] [0, 1, 5, 18])
    (.cond (.t 18)
      (.seq (.rg [⟨(some 19), none, .mv (.t 0)⟩,
          ⟨(some 20), none, .mv (.t 5)⟩,
          ⟨(some 21), none, .iad 2 (.t 19) (.t 20)⟩,
          ⟨(some 22), none, .fad 1 (.t 21)⟩,
          ⟨(some 23), none, .load false 1 (.t 22) false⟩,
          ⟨(some 4), none, .mv (.t 23)⟩] [4])
      .ret)
      .skip)))
  (.rg [⟨(some 10), none, .mv (.t 5)⟩,
      ⟨(some 11), none, .bin .add (.t 10) (.c (.int .i64 1))⟩,
      ⟨(some 5), none, .mv (.t 11)⟩] [0, 1, 5])))
def fn30L0 : Cd := .loop [0, 1, 5] fn30B0
def fn30 : Vs.Fn := ⟨2,
  (.seq (.rg [⟨(some 4), none, .mv (.c (.string ⟨#[]⟩))⟩] [0, 1])
  (.seq (.seq (.rg [⟨(some 5), none, .mv (.c (.int .i64 0))⟩] [0, 1, 5])
  (.block 0
    fn30L0))
  (.seq (.rg [⟨(some 4), none, .mv (.c (.string ⟨#[]⟩))⟩] [4])
  .ret))),
  [.t 4]⟩

/- spillway/spillwayref3.Print -/
def an34 : Ann := [[0], [2], [0, 9], [2], [2], [0, 3], [2], [0, 3, 14], [0, 3], [0, 3, 4], [0, 3, 4, 5], [0, 3, 4, 5, 6], [0, 3, 4, 5, 6], [0, 3, 4, 5, 6, 18], [0, 3, 4, 5, 6, 30], [0, 3, 4, 5, 6, 32], [0, 3, 4, 5, 6], [0, 3, 4, 5, 6], [2], [0, 3, 4, 5, 6], [0, 3, 4, 5, 6], [3, 4, 57], [3, 4], [2]]
def fn34B0 : Cd :=
  (.seq (.seq (.rg [⟨(some 15), none, .mv (.t 6)⟩,
      ⟨(some 16), none, .mv (.t 0)⟩,
      ⟨(some 17), none, .len false (.t 16)⟩,
      ⟨(some 18), none, .bin .lss (.t 15) (.t 17)⟩] [0, 3, 4, 5, 6, 18])
  (.cond (.t 18)
    .skip
    (.exit 0)))
  (.seq (.block 1
    (.seq (.seq (.rg [⟨(some 21), none, .mv (.t 0)⟩,
        ⟨(some 22), none, .mv (.t 6)⟩,
        ⟨(some 23), none, .iad 2 (.t 21) (.t 22)⟩,
        ⟨(some 24), none, .fad 0 (.t 23)⟩,
        ⟨(some 25), none, .load false 1 (.t 24) false⟩,
        ⟨(some 26), none, .bin .eql (.t 25) (.c (.string ⟨#[95, 95, 110, 97, 109, 101, 95, 95]⟩))⟩,
        ⟨(some 27), none, .mv (.t 26)⟩,
        ⟨(some 28), some (27, true), .mv (.t 3)⟩,
        ⟨(some 29), some (27, true), .bin .neq (.t 28) (.c (.string ⟨#[]⟩))⟩,
        ⟨(some 30), none, .pick (.t 27) (.t 29) (.c (.bool false))⟩] [0, 3, 4, 5, 6, 30])
    (.cond (.t 30)
      (.exit 1)
      .skip))
    (.seq (.seq (.rg [⟨(some 31), none, .mv (.t 5)⟩,
        ⟨(some 32), none, .bin .gtr (.t 31) (.c (.int .i64 0))⟩] [0, 3, 4, 5, 6, 32])
    (.cond (.t 32)
      (.rg [⟨(some 33), none, .mv (.t 4)⟩,
          ⟨(some 34), none, .bin .add (.t 33) (.c (.string ⟨#[44]⟩))⟩,
          ⟨(some 4), none, .mv (.t 34)⟩] [0, 3, 4, 5, 6])
      .skip))
    (.seq (.rg [⟨(some 35), none, .mv (.t 5)⟩,
        ⟨(some 36), none, .bin .add (.t 35) (.c (.int .i64 1))⟩,
        ⟨(some 5), none, .mv (.t 36)⟩] [0, 3, 4, 5, 6])
    (.rg [⟨(some 37), none, .mv (.t 4)⟩,
        ⟨(some 38), none, .mv (.t 0)⟩,
        ⟨(some 39), none, .mv (.t 6)⟩,
        ⟨(some 40), none, .iad 2 (.t 38) (.t 39)⟩,
        ⟨(some 41), none, .fad 0 (.t 40)⟩,
        ⟨(some 42), none, .load false 1 (.t 41) false⟩,
        ⟨(some 43), none, .bin .add (.t 37) (.t 42)⟩,
        ⟨(some 44), none, .bin .add (.t 43) (.c (.string ⟨#[61]⟩))⟩,
        ⟨(some 45), none, .mv (.t 0)⟩,
        ⟨(some 46), none, .mv (.t 6)⟩,
        ⟨(some 47), none, .iad 2 (.t 45) (.t 46)⟩,
        ⟨(some 48), none, .fad 1 (.t 47)⟩,
        ⟨(some 49), none, .load false 1 (.t 48) false⟩,
        ⟨(some 50), none, .call 2 (.f 63) [(.t 49)]⟩,
        ⟨(some 51), none, .bin .add (.t 44) (.t 50)⟩,
        ⟨(some 4), none, .mv (.t 51)⟩] [0, 3, 4, 5, 6])))))
  (.rg [⟨(some 19), none, .mv (.t 6)⟩,
      ⟨(some 20), none, .bin .add (.t 19) (.c (.int .i64 1))⟩,
      ⟨(some 6), none, .mv (.t 20)⟩] [0, 3, 4, 5, 6])))
def fn34L0 : Cd := .loop [0, 3, 4, 5, 6] fn34B0
def fn34 : Vs.Fn := ⟨1,
  (.seq (.rg [⟨(some 2), none, .mv (.c (.string ⟨#[]⟩))⟩] [0])
  (.seq (.seq (.rg [⟨(some 7), none, .mv (.t 0)⟩,
      ⟨(some 8), none, .call 2 (.f 28) [(.t 7)]⟩,
      ⟨(some 9), none, .un .not (.t 8)⟩] [0, 9])
  (.cond (.t 9)
    (.seq (.rg [⟨(some 2), none, .mv (.c (.string ⟨#[]⟩))⟩] [2])
    .ret)
    .skip))
  (.seq (.rg [⟨(some 10), none, .mv (.t 0)⟩,
      ⟨(some 11), none, .call 2 (.f 30) [(.t 10), (.c (.string ⟨#[95, 95, 110, 97, 109, 101, 95, 95]⟩))]⟩,
      ⟨(some 3), none, .mv (.t 11)⟩] [0, 3])
  (.seq (.seq (.rg [⟨(some 12), none, .mv (.t 3)⟩,
      ⟨(some 13), none, .call 2 (.f 29) [(.t 12)]⟩,
      ⟨(some 14), none, .un .not (.t 13)⟩] [0, 3, 14])
  (.cond (.t 14)
    (.rg [⟨(some 3), none, .mv (.c (.string ⟨#[]⟩))⟩] [0, 3])
    .skip))
  (.seq (.rg [⟨(some 4), none, .mv (.c (.string ⟨#[]⟩))⟩] [0, 3, 4])
  (.seq (.rg [⟨(some 5), none, .mv (.c (.int .i64 0))⟩] [0, 3, 4, 5])
  (.seq (.seq (.rg [⟨(some 6), none, .mv (.c (.int .i64 0))⟩] [0, 3, 4, 5, 6])
  (.block 0
    fn34L0))
  (.seq (.seq (.rg [⟨(some 52), none, .mv (.t 5)⟩,
      ⟨(some 53), none, .bin .gtr (.t 52) (.c (.int .i64 0))⟩,
      ⟨(some 54), none, .mv (.t 53)⟩,
      ⟨(some 55), some (54, false), .mv (.t 3)⟩,
      ⟨(some 56), some (54, false), .bin .eql (.t 55) (.c (.string ⟨#[]⟩))⟩,
      ⟨(some 57), none, .pick (.t 54) (.c (.bool true)) (.t 56)⟩] [3, 4, 57])
  (.cond (.t 57)
    (.rg [⟨(some 58), none, .mv (.t 4)⟩,
        ⟨(some 59), none, .bin .add (.c (.string ⟨#[123]⟩)) (.t 58)⟩,
        ⟨(some 60), none, .bin .add (.t 59) (.c (.string ⟨#[125]⟩))⟩,
        ⟨(some 4), none, .mv (.t 60)⟩] [3, 4])
    .skip))
  (.seq (.rg [⟨(some 61), none, .mv (.t 3)⟩,
      ⟨(some 62), none, .mv (.t 4)⟩,
      ⟨(some 63), none, .bin .add (.t 61) (.t 62)⟩,
      ⟨(some 2), none, .mv (.t 63)⟩] [2])
  .ret))))))))),
  [.t 2]⟩

/- strings.Cut -/
def an35 : Ann := [[0, 1], [2], [4, 5, 6]]
def fn35 : Vs.Fn := ⟨2,
  (.seq (.rg [⟨(some 4), none, .mv (.c (.string ⟨#[]⟩))⟩,
      ⟨(some 5), none, .mv (.c (.string ⟨#[]⟩))⟩,
      ⟨(some 6), none, .mv (.c (.bool false))⟩] [0, 1])
  (.seq (.rg [⟨(some 7), none, .mv (.t 0)⟩,
      ⟨(some 8), none, .mv (.t 1)⟩,
      ⟨(some 9), none, .call 2 (.f 64) [(.t 7), (.t 8)]⟩,
      ⟨(some 10), none, .ext (.t 9) 0⟩,
      ⟨(some 11), none, .ext (.t 9) 1⟩,
      ⟨(some 12), none, .ext (.t 9) 2⟩,
      ⟨(some 4), none, .mv (.t 10)⟩,
      ⟨(some 5), none, .mv (.t 11)⟩,
      ⟨(some 6), none, .mv (.t 12)⟩] [4, 5, 6])
  .ret)),
  [.t 4, .t 5, .t 6]⟩

/- spillway/label.Unquote -/
def an36 : Ann := [[0], [0, 14], [2, 3, 4], [0, 5], [0, 5, 6], [0, 5, 6], [0, 5, 6, 19], [0, 5, 6, 7], [0, 5, 6, 7, 27], [0], [2, 3, 4], [0, 5, 6, 7, 35], [0, 5, 6], [0, 5, 6, 55], [2, 3, 4], [0], [0, 5, 6], [0], [0, 5, 6], [0, 5, 6], [2, 3, 4]]
def fn36B0 : Cd :=
  (.seq (.seq (.rg [⟨(some 16), none, .mv (.t 6)⟩,
      ⟨(some 17), none, .mv (.t 0)⟩,
      ⟨(some 18), none, .len true (.t 17)⟩,
      ⟨(some 19), none, .bin .lss (.t 16) (.t 18)⟩] [0, 5, 6, 19])
  (.cond (.t 19)
    .skip
    (.exit 0)))
  (.seq (.block 1
    (.seq (.rg [⟨(some 22), none, .mv (.t 0)⟩,
        ⟨(some 23), none, .mv (.t 6)⟩,
        ⟨(some 24), none, .ist (.t 22) (.t 23)⟩,
        ⟨(some 7), none, .mv (.t 24)⟩] [0, 5, 6, 7])
    (.block 2
      (.seq (.rg [⟨(some 28), none, .mv (.t 7)⟩,
          ⟨(some 29), none, .bin .eql (.t 28) (.c (.int .u8 34))⟩,
          ⟨(some 27), none, .mv (.t 29)⟩] [0, 5, 6, 7, 27])
      (.cond (.t 27)
        (.seq (.rg [⟨(some 30), none, .call 0 (.f 65) [(.t 5)]⟩,
            ⟨(some 31), none, .mv (.t 0)⟩,
            ⟨(some 32), none, .mv (.t 6)⟩,
            ⟨(some 33), none, .bin .add (.t 32) (.c (.int .i64 1))⟩,
            ⟨(some 34), none, .slst (.t 31) (some (.t 33)) none⟩,
            ⟨(some 2), none, .mv (.t 30)⟩,
            ⟨(some 3), none, .mv (.t 34)⟩,
            ⟨(some 4), none, .mv (.c (.bool true))⟩] [2, 3, 4])
        .ret)
        (.seq (.rg [⟨(some 36), none, .mv (.t 7)⟩,
            ⟨(some 37), none, .bin .eql (.t 36) (.c (.int .u8 92))⟩,
            ⟨(some 35), none, .mv (.t 37)⟩] [0, 5, 6, 7, 35])
        (.cond (.t 35)
          (.seq (.rg [⟨(some 38), none, .mv (.t 6)⟩,
              ⟨(some 39), none, .bin .add (.t 38) (.c (.int .i64 1))⟩,
              ⟨(some 6), none, .mv (.t 39)⟩] [0, 5, 6])
          (.seq (.seq (.rg [⟨(some 40), none, .mv (.t 6)⟩,
              ⟨(some 41), none, .mv (.t 0)⟩,
              ⟨(some 42), none, .len true (.t 41)⟩,
              ⟨(some 43), none, .bin .eql (.t 40) (.t 42)⟩,
              ⟨(some 44), none, .mv (.t 43)⟩,
              ⟨(some 45), some (44, false), .mv (.t 0)⟩,
              ⟨(some 46), some (44, false), .mv (.t 6)⟩,
              ⟨(some 47), some (44, false), .ist (.t 45) (.t 46)⟩,
              ⟨(some 48), some (44, false), .bin .neq (.t 47) (.c (.int .u8 34))⟩,
              ⟨(some 49), some (44, false), .mv (.t 48)⟩,
              ⟨(some 50), some (49, true), .mv (.t 0)⟩,
              ⟨(some 51), some (49, true), .mv (.t 6)⟩,
              ⟨(some 52), some (49, true), .ist (.t 50) (.t 51)⟩,
              ⟨(some 53), some (49, true), .bin .neq (.t 52) (.c (.int .u8 92))⟩,
              ⟨(some 54), some (44, false), .pick (.t 49) (.t 53) (.c (.bool false))⟩,
              ⟨(some 55), none, .pick (.t 44) (.c (.bool true)) (.t 54)⟩] [0, 5, 6, 55])
          (.cond (.t 55)
            (.seq (.rg [⟨(some 56), none, .mv (.t 0)⟩,
                ⟨(some 2), none, .mv (.c (.string ⟨#[]⟩))⟩,
                ⟨(some 3), none, .mv (.t 56)⟩,
                ⟨(some 4), none, .mv (.c (.bool false))⟩] [2, 3, 4])
            .ret)
            .skip))
          (.rg [⟨(some 57), none, .mv (.t 0)⟩,
              ⟨(some 58), none, .mv (.t 6)⟩,
              ⟨(some 59), none, .ist (.t 57) (.t 58)⟩,
              ⟨(some 60), none, .call 0 (.f 66) [(.t 5), (.t 59)]⟩] [0, 5, 6])))
          (.rg [⟨(some 25), none, .mv (.t 7)⟩,
              ⟨(some 26), none, .call 0 (.f 66) [(.t 5), (.t 25)]⟩] [0, 5, 6]))))))))
  (.rg [⟨(some 20), none, .mv (.t 6)⟩,
      ⟨(some 21), none, .bin .add (.t 20) (.c (.int .i64 1))⟩,
      ⟨(some 6), none, .mv (.t 21)⟩] [0, 5, 6])))
def fn36L0 : Cd := .loop [0, 5, 6] fn36B0
def fn36 : Vs.Fn := ⟨1,
  (.seq (.rg [⟨(some 2), none, .mv (.c (.string ⟨#[]⟩))⟩,
      ⟨(some 3), none, .mv (.c (.string ⟨#[]⟩))⟩,
      ⟨(some 4), none, .mv (.c (.bool false))⟩] [0])
  (.seq (.seq (.rg [⟨(some 8), none, .mv (.t 0)⟩,
      ⟨(some 9), none, .bin .eql (.t 8) (.c (.string ⟨#[]⟩))⟩,
      ⟨(some 10), none, .mv (.t 9)⟩,
      ⟨(some 11), some (10, false), .mv (.t 0)⟩,
      ⟨(some 12), some (10, false), .ist (.t 11) (.c (.int .i64 0))⟩,
      ⟨(some 13), some (10, false), .bin .neq (.t 12) (.c (.int .u8 34))⟩,
      ⟨(some 14), none, .pick (.t 10) (.c (.bool true)) (.t 13)⟩] [0, 14])
  (.cond (.t 14)
    (.seq (.rg [⟨(some 15), none, .mv (.t 0)⟩,
        ⟨(some 2), none, .mv (.c (.string ⟨#[]⟩))⟩,
        ⟨(some 3), none, .mv (.t 15)⟩,
        ⟨(some 4), none, .mv (.c (.bool false))⟩] [2, 3, 4])
    .ret)
    .skip))
  (.seq (.rg [⟨(some 5), none, .alt 78 [.nptr, .nsl]⟩] [0, 5])
  (.seq (.seq (.rg [⟨(some 6), none, .mv (.c (.int .i64 1))⟩] [0, 5, 6])
  (.block 0
    fn36L0))
  (.seq (.rg [⟨(some 61), none, .mv (.t 0)⟩,
      ⟨(some 2), none, .mv (.c (.string ⟨#[]⟩))⟩,
      ⟨(some 3), none, .mv (.t 61)⟩,
      ⟨(some 4), none, .mv (.c (.bool false))⟩] [2, 3, 4])
  .ret))))),
  [.t 2, .t 3, .t 4]⟩

/- strings.TrimPrefix -/
def an37 : Ann := [[0, 1], [2], [4]]
def fn37 : Vs.Fn := ⟨2,
  (.seq (.rg [⟨(some 4), none, .mv (.c (.string ⟨#[]⟩))⟩] [0, 1])
  (.seq (.rg [⟨(some 5), none, .mv (.t 0)⟩,
      ⟨(some 6), none, .mv (.t 1)⟩,
      ⟨(some 7), none, .call 2 (.f 67) [(.t 5), (.t 6)]⟩,
      ⟨(some 4), none, .mv (.t 7)⟩] [4])
  .ret)),
  [.t 4]⟩

/- spillway/spillwayref3.ident -/
def an38 : Ann := [[0], [0, 3], [0, 3], [2], [0, 3, 16], [0, 3], [2]]
def fn38B0 : Cd :=
  (.seq (.seq (.rg [⟨(some 4), none, .mv (.t 3)⟩,
      ⟨(some 5), none, .mv (.t 0)⟩,
      ⟨(some 6), none, .len true (.t 5)⟩,
      ⟨(some 7), none, .bin .lss (.t 4) (.t 6)⟩,
      ⟨(some 8), none, .mv (.t 7)⟩,
      ⟨(some 9), some (8, true), .mv (.t 0)⟩,
      ⟨(some 10), some (8, true), .mv (.t 3)⟩,
      ⟨(some 11), some (8, true), .mv (.t 3)⟩,
      ⟨(some 12), some (8, true), .bin .add (.t 11) (.c (.int .i64 1))⟩,
      ⟨(some 13), some (8, true), .slst (.t 9) (some (.t 10)) (some (.t 12))⟩,
      ⟨(some 14), some (8, true), .bin .add (.c (.string ⟨#[95]⟩)) (.t 13)⟩,
      ⟨(some 15), some (8, true), .call 2 (.f 29) [(.t 14)]⟩,
      ⟨(some 16), none, .pick (.t 8) (.t 15) (.c (.bool false))⟩] [0, 3, 16])
  (.cond (.t 16)
    .skip
    (.exit 0)))
  (.block 1
    (.rg [⟨(some 17), none, .mv (.t 3)⟩,
        ⟨(some 18), none, .bin .add (.t 17) (.c (.int .i64 1))⟩,
        ⟨(some 3), none, .mv (.t 18)⟩] [0, 3])))
def fn38L0 : Cd := .loop [0, 3] fn38B0
def fn38 : Vs.Fn := ⟨1,
  (.seq (.rg [⟨(some 2), none, .mv (.c (.int .i64 0))⟩] [0])
  (.seq (.rg [⟨(some 3), none, .mv (.c (.int .i64 0))⟩] [0, 3])
  (.seq (.block 0
    fn38L0)
  (.seq (.rg [⟨(some 19), none, .mv (.t 3)⟩,
      ⟨(some 2), none, .mv (.t 19)⟩] [2])
  .ret)))),
  [.t 2]⟩

/- spillway/spillwayref3.Quoted -/
def an39 : Ann := [[0], [0, 12], [2, 3], [0, 4], [0, 4, 5], [0, 4, 5], [0, 4, 5, 16], [0, 4, 5, 21], [0, 4, 5, 21, 22], [2, 3], [0, 4, 5, 21, 28], [0, 4, 5, 48], [2, 3], [0, 4, 5], [0, 4, 5, 51], [2, 3], [0, 4, 5], [0, 4, 5], [2, 3]]
def fn39B0 : Cd :=
  (.seq (.seq (.rg [⟨(some 13), none, .mv (.t 5)⟩,
      ⟨(some 14), none, .mv (.t 0)⟩,
      ⟨(some 15), none, .len true (.t 14)⟩,
      ⟨(some 16), none, .bin .lss (.t 13) (.t 15)⟩] [0, 4, 5, 16])
  (.cond (.t 16)
    .skip
    (.exit 0)))
  (.seq (.block 1
    (.seq (.seq (.rg [⟨(some 19), none, .mv (.t 0)⟩,
        ⟨(some 20), none, .mv (.t 5)⟩,
        ⟨(some 21), none, .ist (.t 19) (.t 20)⟩] [0, 4, 5, 21])
    (.block 2
      (.seq (.rg [⟨(some 23), none, .bin .eql (.t 21) (.c (.int .u8 34))⟩,
          ⟨(some 22), none, .mv (.t 23)⟩] [0, 4, 5, 21, 22])
      (.cond (.t 22)
        (.seq (.rg [⟨(some 24), none, .mv (.t 4)⟩,
            ⟨(some 25), none, .cvbs (.t 24)⟩,
            ⟨(some 26), none, .mv (.t 5)⟩,
            ⟨(some 27), none, .bin .add (.t 26) (.c (.int .i64 1))⟩,
            ⟨(some 2), none, .mv (.t 25)⟩,
            ⟨(some 3), none, .mv (.t 27)⟩] [2, 3])
        .ret)
        (.seq (.rg [⟨(some 29), none, .bin .eql (.t 21) (.c (.int .u8 92))⟩,
            ⟨(some 28), none, .mv (.t 29)⟩] [0, 4, 5, 21, 28])
        (.cond (.t 28)
          (.seq (.seq (.rg [⟨(some 30), none, .mv (.t 5)⟩,
              ⟨(some 31), none, .bin .add (.t 30) (.c (.int .i64 1))⟩,
              ⟨(some 32), none, .mv (.t 0)⟩,
              ⟨(some 33), none, .len true (.t 32)⟩,
              ⟨(some 34), none, .bin .geq (.t 31) (.t 33)⟩,
              ⟨(some 35), none, .mv (.t 34)⟩,
              ⟨(some 36), some (35, false), .mv (.t 0)⟩,
              ⟨(some 37), some (35, false), .mv (.t 5)⟩,
              ⟨(some 38), some (35, false), .bin .add (.t 37) (.c (.int .i64 1))⟩,
              ⟨(some 39), some (35, false), .ist (.t 36) (.t 38)⟩,
              ⟨(some 40), some (35, false), .bin .neq (.t 39) (.c (.int .u8 34))⟩,
              ⟨(some 41), some (35, false), .mv (.t 40)⟩,
              ⟨(some 42), some (41, true), .mv (.t 0)⟩,
              ⟨(some 43), some (41, true), .mv (.t 5)⟩,
              ⟨(some 44), some (41, true), .bin .add (.t 43) (.c (.int .i64 1))⟩,
              ⟨(some 45), some (41, true), .ist (.t 42) (.t 44)⟩,
              ⟨(some 46), some (41, true), .bin .neq (.t 45) (.c (.int .u8 92))⟩,
              ⟨(some 47), some (35, false), .pick (.t 41) (.t 46) (.c (.bool false))⟩,
              ⟨(some 48), none, .pick (.t 35) (.c (.bool true)) (.t 47)⟩] [0, 4, 5, 48])
          (.cond (.t 48)
            (.seq (.rg [⟨(some 2), none, .mv (.c (.string ⟨#[]⟩))⟩,
                ⟨(some 3), none, .mv (.c (.int .i64 0))⟩] [2, 3])
            .ret)
            .skip))
          (.rg [⟨(some 49), none, .mv (.t 5)⟩,
              ⟨(some 50), none, .bin .add (.t 49) (.c (.int .i64 1))⟩,
              ⟨(some 5), none, .mv (.t 50)⟩] [0, 4, 5]))
          (.seq (.rg [⟨(some 52), none, .bin .eql (.t 21) (.c (.int .u8 10))⟩,
              ⟨(some 51), none, .mv (.t 52)⟩] [0, 4, 5, 51])
          (.cond (.t 51)
            (.seq (.rg [⟨(some 2), none, .mv (.c (.string ⟨#[]⟩))⟩,
                ⟨(some 3), none, .mv (.c (.int .i64 0))⟩] [2, 3])
            .ret)
            .skip))))))))
    (.rg [⟨(some 53), none, .mv (.t 4)⟩,
        ⟨(some 54), none, .mv (.t 0)⟩,
        ⟨(some 55), none, .mv (.t 5)⟩,
        ⟨(some 56), none, .ist (.t 54) (.t 55)⟩,
        ⟨(some 57), none, .bslice 1 1 [(.int .u8 0)] [(0, (.t 56))]⟩,
        ⟨(some 58), none, .apb 5 (.t 53) (.t 57)⟩,
        ⟨(some 4), none, .mv (.t 58)⟩] [0, 4, 5])))
  (.rg [⟨(some 17), none, .mv (.t 5)⟩,
      ⟨(some 18), none, .bin .add (.t 17) (.c (.int .i64 1))⟩,
      ⟨(some 5), none, .mv (.t 18)⟩] [0, 4, 5])))
def fn39L0 : Cd := .loop [0, 4, 5] fn39B0
def fn39 : Vs.Fn := ⟨1,
  (.seq (.rg [⟨(some 2), none, .mv (.c (.string ⟨#[]⟩))⟩,
      ⟨(some 3), none, .mv (.c (.int .i64 0))⟩] [0])
  (.seq (.seq (.rg [⟨(some 6), none, .mv (.t 0)⟩,
      ⟨(some 7), none, .bin .eql (.t 6) (.c (.string ⟨#[]⟩))⟩,
      ⟨(some 8), none, .mv (.t 7)⟩,
      ⟨(some 9), some (8, false), .mv (.t 0)⟩,
      ⟨(some 10), some (8, false), .ist (.t 9) (.c (.int .i64 0))⟩,
      ⟨(some 11), some (8, false), .bin .neq (.t 10) (.c (.int .u8 34))⟩,
      ⟨(some 12), none, .pick (.t 8) (.c (.bool true)) (.t 11)⟩] [0, 12])
  (.cond (.t 12)
    (.seq (.rg [⟨(some 2), none, .mv (.c (.string ⟨#[]⟩))⟩,
        ⟨(some 3), none, .mv (.c (.int .i64 0))⟩] [2, 3])
    .ret)
    .skip))
  (.seq (.rg [⟨(some 4), none, .mv (.c (.slice none 0 0))⟩] [0, 4])
  (.seq (.seq (.rg [⟨(some 5), none, .mv (.c (.int .i64 1))⟩] [0, 4, 5])
  (.block 0
    fn39L0))
  (.seq (.rg [⟨(some 2), none, .mv (.c (.string ⟨#[]⟩))⟩,
      ⟨(some 3), none, .mv (.c (.int .i64 0))⟩] [2, 3])
  .ret))))),
  [.t 2, .t 3]⟩

/- spillway/spillwayref3.sorted -/
def an40 : Ann := [[0], [0, 3], [0, 3, 4], [0, 3, 4], [0, 3, 4, 9], [0, 3, 4, 5], [0, 3, 4, 5], [0, 3, 4, 5, 29], [0, 3, 4, 5], [0, 3, 4, 5], [0, 3, 4, 5], [0, 3, 4], [0, 3, 4], [2]]
def fn40B0 : Cd :=
  (.seq (.seq (.rg [⟨(some 14), none, .mv (.t 5)⟩,
      ⟨(some 15), none, .bin .gtr (.t 14) (.c (.int .i64 0))⟩,
      ⟨(some 16), none, .mv (.t 15)⟩,
      ⟨(some 17), some (16, true), .mv (.t 3)⟩,
      ⟨(some 18), some (16, true), .mv (.t 5)⟩,
      ⟨(some 19), some (16, true), .bin .sub (.t 18) (.c (.int .i64 1))⟩,
      ⟨(some 20), some (16, true), .iad 2 (.t 17) (.t 19)⟩,
      ⟨(some 21), some (16, true), .fad 0 (.t 20)⟩,
      ⟨(some 22), some (16, true), .load false 1 (.t 21) false⟩,
      ⟨(some 23), some (16, true), .mv (.t 0)⟩,
      ⟨(some 24), some (16, true), .mv (.t 4)⟩,
      ⟨(some 25), some (16, true), .iad 2 (.t 23) (.t 24)⟩,
      ⟨(some 26), some (16, true), .fad 0 (.t 25)⟩,
      ⟨(some 27), some (16, true), .load false 1 (.t 26) false⟩,
      ⟨(some 28), some (16, true), .bin .gtr (.t 22) (.t 27)⟩,
      ⟨(some 29), none, .pick (.t 16) (.t 28) (.c (.bool false))⟩] [0, 3, 4, 5, 29])
  (.cond (.t 29)
    .skip
    (.exit 2)))
  (.block 3
    (.rg [⟨(some 30), none, .mv (.t 5)⟩,
        ⟨(some 31), none, .bin .sub (.t 30) (.c (.int .i64 1))⟩,
        ⟨(some 5), none, .mv (.t 31)⟩] [0, 3, 4, 5])))
def fn40L0 : Cd := .loop [0, 3, 4, 5] fn40B0
def fn40B1 : Cd :=
  (.seq (.seq (.rg [⟨(some 6), none, .mv (.t 4)⟩,
      ⟨(some 7), none, .mv (.t 0)⟩,
      ⟨(some 8), none, .len false (.t 7)⟩,
      ⟨(some 9), none, .bin .lss (.t 6) (.t 8)⟩] [0, 3, 4, 9])
  (.cond (.t 9)
    .skip
    (.exit 0)))
  (.seq (.block 1
    (.seq (.rg [⟨(some 12), none, .mv (.t 3)⟩,
        ⟨(some 13), none, .len false (.t 12)⟩,
        ⟨(some 5), none, .mv (.t 13)⟩] [0, 3, 4, 5])
    (.seq (.block 2
      fn40L0)
    (.seq (.rg [⟨(some 32), none, .mv (.t 3)⟩,
        ⟨(some 33), none, .build [(.str ⟨#[]⟩), (.str ⟨#[]⟩)] []⟩,
        ⟨(some 34), none, .bslice 1 2 [(.str ⟨#[]⟩), (.str ⟨#[]⟩)] [(0, (.t 33))]⟩,
        ⟨(some 35), none, .app 2 32 (.t 32) (.t 34)⟩,
        ⟨(some 3), none, .mv (.t 35)⟩] [0, 3, 4, 5])
    (.seq (.rg [⟨(some 36), none, .mv (.t 3)⟩,
        ⟨(some 37), none, .mv (.t 5)⟩,
        ⟨(some 38), none, .bin .add (.t 37) (.c (.int .i64 1))⟩,
        ⟨(some 39), none, .slsl 2 (.t 36) (some (.t 38)) none none⟩,
        ⟨(some 40), none, .mv (.t 3)⟩,
        ⟨(some 41), none, .mv (.t 5)⟩,
        ⟨(some 42), none, .slsl 2 (.t 40) (some (.t 41)) none none⟩,
        ⟨(some 43), none, .copy 2 (.t 39) (.t 42)⟩] [0, 3, 4, 5])
    (.rg [⟨(some 44), none, .mv (.t 3)⟩,
        ⟨(some 45), none, .mv (.t 5)⟩,
        ⟨(some 46), none, .mv (.t 0)⟩,
        ⟨(some 47), none, .mv (.t 4)⟩,
        ⟨(some 48), none, .iad 2 (.t 46) (.t 47)⟩,
        ⟨(some 49), none, .load true 2 (.t 48) false⟩,
        ⟨(some 50), none, .iad 2 (.t 44) (.t 45)⟩,
        ⟨none, none, .store 2 (.t 50) (.t 49)⟩] [0, 3, 4]))))))
  (.rg [⟨(some 10), none, .mv (.t 4)⟩,
      ⟨(some 11), none, .bin .add (.t 10) (.c (.int .i64 1))⟩,
      ⟨(some 4), none, .mv (.t 11)⟩] [0, 3, 4])))
def fn40L1 : Cd := .loop [0, 3, 4] fn40B1
def fn40 : Vs.Fn := ⟨1,
  (.seq (.rg [⟨(some 2), none, .mv (.c (.slice none 0 0))⟩] [0])
  (.seq (.rg [⟨(some 3), none, .mv (.c (.slice none 0 0))⟩] [0, 3])
  (.seq (.seq (.rg [⟨(some 4), none, .mv (.c (.int .i64 0))⟩] [0, 3, 4])
  (.block 0
    fn40L1))
  (.seq (.rg [⟨(some 51), none, .mv (.t 3)⟩,
      ⟨(some 2), none, .mv (.t 51)⟩] [2])
  .ret)))),
  [.t 2]⟩

/- spillway/label.value -/
def an41 : Ann := [[0], [2], [2]]
def fn41 : Vs.Fn := ⟨1,
  (.seq (.rg [⟨(some 2), none, .mv (.c (.bool false))⟩] [0])
  (.seq (.rg [⟨(some 3), none, .mv (.t 0)⟩,
      ⟨(some 4), none, .len true (.t 3)⟩,
      ⟨(some 5), none, .bin .geq (.t 4) (.c (.int .i64 1))⟩,
      ⟨(some 6), none, .mv (.t 5)⟩,
      ⟨(some 7), some (6, true), .mv (.t 0)⟩,
      ⟨(some 8), some (6, true), .len true (.t 7)⟩,
      ⟨(some 9), some (6, true), .bin .leq (.t 8) (.c (.int .i64 30))⟩,
      ⟨(some 10), none, .pick (.t 6) (.t 9) (.c (.bool false))⟩,
      ⟨(some 11), none, .mv (.t 10)⟩,
      ⟨(some 12), some (11, true), .mv (.t 0)⟩,
      ⟨(some 13), some (11, true), .call 2 (.f 68) [(.t 12), (.c (.int .u8 10))]⟩,
      ⟨(some 14), some (11, true), .bin .lss (.t 13) (.c (.int .i64 0))⟩,
      ⟨(some 15), none, .pick (.t 11) (.t 14) (.c (.bool false))⟩,
      ⟨(some 2), none, .mv (.t 15)⟩] [2])
  .ret)),
  [.t 2]⟩

/- spillway/label.Quote -/
def an42 : Ann := [[0], [0, 3], [0], [0, 3], [0, 3, 7, 8], [0, 3, 7, 8], [0, 3, 7, 8, 9], [0, 3, 4, 7, 8], [0, 3, 4, 7, 8, 20], [0], [0, 3, 4, 7, 8], [0], [0, 3, 7, 8], [0, 3, 7, 8], [0], [3], [0], [2]]
def fn42B0 : Cd :=
  (.seq (.rg [⟨(some 9), none, .bin .lss (.t 8) (.t 7)⟩] [0, 3, 7, 8, 9])
  (.seq (.cond (.t 9)
    .skip
    (.exit 0))
  (.seq (.block 1
    (.seq (.rg [⟨(some 10), none, .mv (.t 8)⟩,
        ⟨(some 4), none, .mv (.t 10)⟩] [0, 3, 4, 7, 8])
    (.seq (.seq (.rg [⟨(some 11), none, .mv (.t 0)⟩,
        ⟨(some 12), none, .mv (.t 4)⟩,
        ⟨(some 13), none, .ist (.t 11) (.t 12)⟩,
        ⟨(some 14), none, .bin .eql (.t 13) (.c (.int .u8 34))⟩,
        ⟨(some 15), none, .mv (.t 14)⟩,
        ⟨(some 16), some (15, false), .mv (.t 0)⟩,
        ⟨(some 17), some (15, false), .mv (.t 4)⟩,
        ⟨(some 18), some (15, false), .ist (.t 16) (.t 17)⟩,
        ⟨(some 19), some (15, false), .bin .eql (.t 18) (.c (.int .u8 92))⟩,
        ⟨(some 20), none, .pick (.t 15) (.c (.bool true)) (.t 19)⟩] [0, 3, 4, 7, 8, 20])
    (.cond (.t 20)
      (.rg [⟨(some 21), none, .call 0 (.f 66) [(.t 3), (.c (.int .u8 92))]⟩] [0, 3, 4, 7, 8])
      .skip))
    (.rg [⟨(some 22), none, .mv (.t 0)⟩,
        ⟨(some 23), none, .mv (.t 4)⟩,
        ⟨(some 24), none, .ist (.t 22) (.t 23)⟩,
        ⟨(some 25), none, .call 0 (.f 66) [(.t 3), (.t 24)]⟩] [0, 3, 7, 8]))))
  (.rg [⟨(some 26), none, .bin .add (.t 8) (.c (.int .i64 1))⟩,
      ⟨(some 8), none, .mv (.t 26)⟩] [0, 3, 7, 8]))))
def fn42L0 : Cd := .loop [0, 3, 7, 8] fn42B0
def fn42 : Vs.Fn := ⟨1,
  (.seq (.rg [⟨(some 2), none, .mv (.c (.string ⟨#[]⟩))⟩] [0])
  (.seq (.rg [⟨(some 3), none, .alt 78 [.nptr, .nsl]⟩] [0, 3])
  (.seq (.rg [⟨(some 5), none, .call 0 (.f 66) [(.t 3), (.c (.int .u8 34))]⟩] [0, 3])
  (.seq (.seq (.rg [⟨(some 6), none, .mv (.t 0)⟩,
      ⟨(some 7), none, .len true (.t 6)⟩,
      ⟨(some 8), none, .mv (.c (.int .i64 0))⟩] [0, 3, 7, 8])
  (.block 0
    fn42L0))
  (.seq (.rg [⟨(some 27), none, .call 0 (.f 66) [(.t 3), (.c (.int .u8 34))]⟩] [3])
  (.seq (.rg [⟨(some 28), none, .call 0 (.f 65) [(.t 3)]⟩,
      ⟨(some 2), none, .mv (.t 28)⟩] [2])
  .ret)))))),
  [.t 2]⟩

/- strings.Join -/
def an43 : Ann := [[0, 1], [0, 1, 12], [0, 1, 12, 13], [4], [0, 1, 15], [4], [0, 1, 5], [0, 1, 5, 22], [0, 1, 5, 29], [0, 1, 5], [0, 1, 5], [0, 1, 5, 39, 40, 41], [0, 1, 5, 39, 40, 41], [0, 1, 5, 39, 40, 41, 42], [0, 1, 5, 7, 39, 40, 41], [0, 1, 5, 7, 39, 40, 41, 49], [0, 1, 5, 7, 39, 40, 41], [0, 1, 5, 39, 40, 41], [0, 1, 5, 39, 40, 41], [0, 1, 5, 8], [0], [0, 1, 8], [0], [0, 1, 8], [1, 8, 63, 64, 65], [1, 8, 63, 64, 65], [1, 8, 63, 64, 65, 66], [1, 8, 10, 63, 64, 65], [0], [1, 8, 10, 63, 64, 65], [0], [1, 8, 63, 64, 65], [1, 8, 63, 64, 65], [0], [4]]
def fn43B0 : Cd :=
  (.seq (.rg [⟨(some 42), none, .bin .lss (.t 41) (.t 40)⟩] [0, 1, 5, 39, 40, 41, 42])
  (.seq (.cond (.t 42)
    .skip
    (.exit 1))
  (.seq (.block 2
    (.seq (.rg [⟨(some 43), none, .iad 1 (.t 39) (.t 41)⟩,
        ⟨(some 44), none, .load false 1 (.t 43) false⟩,
        ⟨(some 7), none, .mv (.t 44)⟩] [0, 1, 5, 7, 39, 40, 41])
    (.seq (.seq (.rg [⟨(some 45), none, .mv (.t 7)⟩,
        ⟨(some 46), none, .len true (.t 45)⟩,
        ⟨(some 47), none, .mv (.t 5)⟩,
        ⟨(some 48), none, .bin .sub (.c (.int .i64 9223372036854775807)) (.t 47)⟩,
        ⟨(some 49), none, .bin .gtr (.t 46) (.t 48)⟩] [0, 1, 5, 7, 39, 40, 41, 49])
    (.cond (.t 49)
      .bad
      .skip))
    (.rg [⟨(some 51), none, .mv (.t 5)⟩,
        ⟨(some 52), none, .mv (.t 7)⟩,
        ⟨(some 53), none, .len true (.t 52)⟩,
        ⟨(some 54), none, .bin .add (.t 51) (.t 53)⟩,
        ⟨(some 5), none, .mv (.t 54)⟩] [0, 1, 5, 39, 40, 41]))))
  (.rg [⟨(some 55), none, .bin .add (.t 41) (.c (.int .i64 1))⟩,
      ⟨(some 41), none, .mv (.t 55)⟩] [0, 1, 5, 39, 40, 41]))))
def fn43L0 : Cd := .loop [0, 1, 5, 39, 40, 41] fn43B0
def fn43B1 : Cd :=
  (.seq (.rg [⟨(some 66), none, .bin .lss (.t 65) (.t 64)⟩] [1, 8, 63, 64, 65, 66])
  (.seq (.cond (.t 66)
    .skip
    (.exit 3))
  (.seq (.block 4
    (.seq (.rg [⟨(some 67), none, .iad 1 (.t 63) (.t 65)⟩,
        ⟨(some 68), none, .load false 1 (.t 67) false⟩,
        ⟨(some 10), none, .mv (.t 68)⟩] [1, 8, 10, 63, 64, 65])
    (.seq (.rg [⟨(some 69), none, .mv (.t 1)⟩,
        ⟨(some 70), none, .call 0 (.f 70) [(.t 8), (.t 69)]⟩] [1, 8, 10, 63, 64, 65])
    (.rg [⟨(some 71), none, .mv (.t 10)⟩,
        ⟨(some 72), none, .call 0 (.f 70) [(.t 8), (.t 71)]⟩] [1, 8, 63, 64, 65]))))
  (.rg [⟨(some 73), none, .bin .add (.t 65) (.c (.int .i64 1))⟩,
      ⟨(some 65), none, .mv (.t 73)⟩] [1, 8, 63, 64, 65]))))
def fn43L1 : Cd := .loop [1, 8, 63, 64, 65] fn43B1
def fn43 : Vs.Fn := ⟨2,
  (.seq (.rg [⟨(some 4), none, .mv (.c (.string ⟨#[]⟩))⟩] [0, 1])
  (.seq (.seq (.rg [⟨(some 11), none, .mv (.t 0)⟩,
      ⟨(some 12), none, .len false (.t 11)⟩] [0, 1, 12])
  (.block 0
    (.seq (.rg [⟨(some 14), none, .bin .eql (.t 12) (.c (.int .i64 0))⟩,
        ⟨(some 13), none, .mv (.t 14)⟩] [0, 1, 12, 13])
    (.cond (.t 13)
      (.seq (.rg [⟨(some 4), none, .mv (.c (.string ⟨#[]⟩))⟩] [4])
      .ret)
      (.seq (.rg [⟨(some 16), none, .bin .eql (.t 12) (.c (.int .i64 1))⟩,
          ⟨(some 15), none, .mv (.t 16)⟩] [0, 1, 15])
      (.cond (.t 15)
        (.seq (.rg [⟨(some 17), none, .mv (.t 0)⟩,
            ⟨(some 18), none, .iad 1 (.t 17) (.c (.int .i64 0))⟩,
            ⟨(some 19), none, .load false 1 (.t 18) false⟩,
            ⟨(some 4), none, .mv (.t 19)⟩] [4])
        .ret)
        .skip))))))
  (.seq (.rg [⟨(some 5), none, .mv (.c (.int .i64 0))⟩] [0, 1, 5])
  (.seq (.seq (.rg [⟨(some 20), none, .mv (.t 1)⟩,
      ⟨(some 21), none, .len true (.t 20)⟩,
      ⟨(some 22), none, .bin .gtr (.t 21) (.c (.int .i64 0))⟩] [0, 1, 5, 22])
  (.cond (.t 22)
    (.seq (.seq (.rg [⟨(some 23), none, .mv (.t 1)⟩,
        ⟨(some 24), none, .len true (.t 23)⟩,
        ⟨(some 25), none, .mv (.t 0)⟩,
        ⟨(some 26), none, .len false (.t 25)⟩,
        ⟨(some 27), none, .bin .sub (.t 26) (.c (.int .i64 1))⟩,
        ⟨(some 28), none, .bin .quo (.c (.int .i64 9223372036854775807)) (.t 27)⟩,
        ⟨(some 29), none, .bin .geq (.t 24) (.t 28)⟩] [0, 1, 5, 29])
    (.cond (.t 29)
      .bad
      .skip))
    (.rg [⟨(some 31), none, .mv (.t 5)⟩,
        ⟨(some 32), none, .mv (.t 1)⟩,
        ⟨(some 33), none, .len true (.t 32)⟩,
        ⟨(some 34), none, .mv (.t 0)⟩,
        ⟨(some 35), none, .len false (.t 34)⟩,
        ⟨(some 36), none, .bin .sub (.t 35) (.c (.int .i64 1))⟩,
        ⟨(some 37), none, .bin .mul (.t 33) (.t 36)⟩,
        ⟨(some 38), none, .bin .add (.t 31) (.t 37)⟩,
        ⟨(some 5), none, .mv (.t 38)⟩] [0, 1, 5]))
    .skip))
  (.seq (.seq (.rg [⟨(some 39), none, .mv (.t 0)⟩,
      ⟨(some 40), none, .len false (.t 39)⟩,
      ⟨(some 41), none, .mv (.c (.int .i64 0))⟩] [0, 1, 5, 39, 40, 41])
  (.block 1
    fn43L0))
  (.seq (.rg [⟨(some 8), none, .alt 78 [.nptr, .nsl]⟩] [0, 1, 5, 8])
  (.seq (.rg [⟨(some 56), none, .mv (.t 5)⟩,
      ⟨(some 57), none, .call 0 (.f 69) [(.t 8), (.t 56)]⟩] [0, 1, 8])
  (.seq (.rg [⟨(some 58), none, .mv (.t 0)⟩,
      ⟨(some 59), none, .iad 1 (.t 58) (.c (.int .i64 0))⟩,
      ⟨(some 60), none, .load false 1 (.t 59) false⟩,
      ⟨(some 61), none, .call 0 (.f 70) [(.t 8), (.t 60)]⟩] [0, 1, 8])
  (.seq (.seq (.rg [⟨(some 62), none, .mv (.t 0)⟩,
      ⟨(some 63), none, .slsl 1 (.t 62) (some (.c (.int .i64 1))) none none⟩,
      ⟨(some 64), none, .len false (.t 63)⟩,
      ⟨(some 65), none, .mv (.c (.int .i64 0))⟩] [1, 8, 63, 64, 65])
  (.block 3
    fn43L1))
  (.seq (.rg [⟨(some 74), none, .call 0 (.f 65) [(.t 8)]⟩,
      ⟨(some 4), none, .mv (.t 74)⟩] [4])
  .ret)))))))))),
  [.t 4]⟩

/- slices.CompareFunc[[]spillway/api.Pair,[]spillway/api.Pair,spillway/api.Pair,spillway/api.Pair] -/
def an44 : Ann := [[0, 1, 2], [0, 1, 2, 11, 12, 13], [0, 1, 2, 11, 12, 13], [0, 1, 2, 11, 12, 13, 14], [0, 1, 2, 7, 8, 11, 12, 13], [0, 1, 2, 7, 8, 11, 12, 13, 21], [6], [0, 1, 2, 8, 9, 11, 12, 13], [2], [0, 1, 2, 10, 11, 12, 13], [0, 1, 2, 10, 11, 12, 13, 31], [6], [0, 1, 2, 11, 12, 13], [38], [6], [6]]
def fn44B0 : Cd :=
  (.seq (.rg [⟨(some 14), none, .bin .lss (.t 13) (.t 12)⟩] [0, 1, 2, 11, 12, 13, 14])
  (.seq (.cond (.t 14)
    .skip
    (.exit 0))
  (.seq (.block 1
    (.seq (.rg [⟨(some 15), none, .mv (.t 13)⟩,
        ⟨(some 16), none, .iad 2 (.t 11) (.t 13)⟩,
        ⟨(some 17), none, .load true 2 (.t 16) false⟩,
        ⟨(some 8), none, .alloc [(.str ⟨#[]⟩), (.str ⟨#[]⟩)]⟩,
        ⟨(some 7), none, .mv (.t 15)⟩,
        ⟨none, none, .store 2 (.t 8) (.t 17)⟩] [0, 1, 2, 7, 8, 11, 12, 13])
    (.seq (.seq (.rg [⟨(some 18), none, .mv (.t 7)⟩,
        ⟨(some 19), none, .mv (.t 1)⟩,
        ⟨(some 20), none, .len false (.t 19)⟩,
        ⟨(some 21), none, .bin .geq (.t 18) (.t 20)⟩] [0, 1, 2, 7, 8, 11, 12, 13, 21])
    (.cond (.t 21)
      (.seq (.rg [⟨(some 6), none, .mv (.c (.int .i64 1))⟩] [6])
      .ret)
      .skip))
    (.seq (.rg [⟨(some 22), none, .mv (.t 1)⟩,
        ⟨(some 23), none, .mv (.t 7)⟩,
        ⟨(some 24), none, .iad 2 (.t 22) (.t 23)⟩,
        ⟨(some 25), none, .load true 2 (.t 24) false⟩,
        ⟨(some 9), none, .alloc [(.str ⟨#[]⟩), (.str ⟨#[]⟩)]⟩,
        ⟨none, none, .store 2 (.t 9) (.t 25)⟩] [0, 1, 2, 8, 9, 11, 12, 13])
    (.seq (.rg [⟨(some 26), none, .mv (.t 2)⟩,
        ⟨(some 27), none, .load true 2 (.t 8) false⟩,
        ⟨(some 28), none, .load true 2 (.t 9) false⟩,
        ⟨(some 29), none, .call 2 (.t 26) [(.t 27), (.t 28)]⟩,
        ⟨(some 10), none, .mv (.t 29)⟩] [0, 1, 2, 10, 11, 12, 13])
    (.seq (.rg [⟨(some 30), none, .mv (.t 10)⟩,
        ⟨(some 31), none, .bin .neq (.t 30) (.c (.int .i64 0))⟩] [0, 1, 2, 10, 11, 12, 13, 31])
    (.cond (.t 31)
      (.seq (.rg [⟨(some 32), none, .mv (.t 10)⟩,
          ⟨(some 6), none, .mv (.t 32)⟩] [6])
      .ret)
      .skip)))))))
  (.rg [⟨(some 33), none, .bin .add (.t 13) (.c (.int .i64 1))⟩,
      ⟨(some 13), none, .mv (.t 33)⟩] [0, 1, 2, 11, 12, 13]))))
def fn44L0 : Cd := .loop [0, 1, 2, 11, 12, 13] fn44B0
def fn44 : Vs.Fn := ⟨3,
  (.seq (.rg [⟨(some 6), none, .mv (.c (.int .i64 0))⟩] [0, 1, 2])
  (.seq (.seq (.rg [⟨(some 11), none, .mv (.t 0)⟩,
      ⟨(some 12), none, .len false (.t 11)⟩,
      ⟨(some 13), none, .mv (.c (.int .i64 0))⟩] [0, 1, 2, 11, 12, 13])
  (.block 0
    fn44L0))
  (.seq (.seq (.rg [⟨(some 34), none, .mv (.t 0)⟩,
      ⟨(some 35), none, .len false (.t 34)⟩,
      ⟨(some 36), none, .mv (.t 1)⟩,
      ⟨(some 37), none, .len false (.t 36)⟩,
      ⟨(some 38), none, .bin .lss (.t 35) (.t 37)⟩] [38])
  (.cond (.t 38)
    (.seq (.rg [⟨(some 6), none, .mv (.c (.int .i64 (-1)))⟩] [6])
    .ret)
    .skip))
  (.seq (.rg [⟨(some 6), none, .mv (.c (.int .i64 0))⟩] [6])
  .ret)))),
  [.t 6]⟩

/- spillway/label.Cmp$1 -/
def an45 : Ann := [[2, 3], [2], [2], [2], [4]]
def fn45 : Vs.Fn := ⟨2,
  (.seq (.rg [⟨(some 2), none, .box 2 (.t 0)⟩,
      ⟨(some 3), none, .box 2 (.t 1)⟩,
      ⟨(some 4), none, .mv (.c (.int .i64 0))⟩] [2, 3])
  (.seq (.rg [⟨(some 5), none, .fad 0 (.t 2)⟩,
      ⟨(some 6), none, .load false 1 (.t 5) false⟩,
      ⟨(some 7), none, .fad 0 (.t 3)⟩,
      ⟨(some 8), none, .load false 1 (.t 7) false⟩,
      ⟨(some 9), none, .call 2 (.f 47) [(.t 6), (.t 8)]⟩,
      ⟨(some 10), none, .fad 1 (.t 2)⟩,
      ⟨(some 11), none, .load false 1 (.t 10) false⟩,
      ⟨(some 12), none, .fad 1 (.t 3)⟩,
      ⟨(some 13), none, .load false 1 (.t 12) false⟩,
      ⟨(some 14), none, .call 2 (.f 47) [(.t 11), (.t 13)]⟩,
      ⟨(some 15), none, .bslice 2 1 [(.int .i64 0)] [(0, (.t 9)), (1, (.t 14))]⟩,
      ⟨(some 16), none, .call 2 (.f 46) [(.t 15)]⟩,
      ⟨(some 4), none, .mv (.t 16)⟩] [4])
  .ret)),
  [.t 4]⟩

/- cmp.Or[int] -/
def an46 : Ann := [[0], [0, 3], [3, 6, 7, 8], [3, 6, 7, 8], [3, 6, 7, 8, 9], [3, 5, 6, 7, 8], [3, 5, 6, 7, 8, 14], [2], [3, 6, 7, 8], [2]]
def fn46B0 : Cd :=
  (.seq (.rg [⟨(some 9), none, .bin .lss (.t 8) (.t 7)⟩] [3, 6, 7, 8, 9])
  (.seq (.cond (.t 9)
    .skip
    (.exit 0))
  (.seq (.block 1
    (.seq (.rg [⟨(some 10), none, .iad 1 (.t 6) (.t 8)⟩,
        ⟨(some 11), none, .load false 1 (.t 10) false⟩,
        ⟨(some 5), none, .mv (.t 11)⟩] [3, 5, 6, 7, 8])
    (.seq (.rg [⟨(some 12), none, .mv (.t 5)⟩,
        ⟨(some 13), none, .mv (.t 3)⟩,
        ⟨(some 14), none, .bin .neq (.t 12) (.t 13)⟩] [3, 5, 6, 7, 8, 14])
    (.cond (.t 14)
      (.seq (.rg [⟨(some 15), none, .mv (.t 5)⟩,
          ⟨(some 2), none, .mv (.t 15)⟩] [2])
      .ret)
      .skip))))
  (.rg [⟨(some 16), none, .bin .add (.t 8) (.c (.int .i64 1))⟩,
      ⟨(some 8), none, .mv (.t 16)⟩] [3, 6, 7, 8]))))
def fn46L0 : Cd := .loop [3, 6, 7, 8] fn46B0
def fn46 : Vs.Fn := ⟨1,
  (.seq (.rg [⟨(some 2), none, .mv (.c (.int .i64 0))⟩] [0])
  (.seq (.rg [⟨(some 3), none, .mv (.c (.int .i64 0))⟩] [0, 3])
  (.seq (.seq (.rg [⟨(some 6), none, .mv (.t 0)⟩,
      ⟨(some 7), none, .len false (.t 6)⟩,
      ⟨(some 8), none, .mv (.c (.int .i64 0))⟩] [3, 6, 7, 8])
  (.block 0
    fn46L0))
  (.seq (.rg [⟨(some 17), none, .mv (.t 3)⟩,
      ⟨(some 2), none, .mv (.t 17)⟩] [2])
  .ret)))),
  [.t 2]⟩

/- strings.Compare -/
def an47 : Ann := [[0, 1], [2], [4]]
def fn47 : Vs.Fn := ⟨2,
  (.seq (.rg [⟨(some 4), none, .mv (.c (.int .i64 0))⟩] [0, 1])
  (.seq (.rg [⟨(some 5), none, .mv (.t 0)⟩,
      ⟨(some 6), none, .mv (.t 1)⟩,
      ⟨(some 7), none, .call 2 (.f 71) [(.t 5), (.t 6)]⟩,
      ⟨(some 4), none, .mv (.t 7)⟩] [4])
  .ret)),
  [.t 4]⟩

/- slices.Clone[[]spillway/api.Pair,spillway/api.Pair] -/
def an48 : Ann := [[0], [0, 4], [2], [2]]
def fn48 : Vs.Fn := ⟨1,
  (.seq (.rg [⟨(some 2), none, .mv (.c (.slice none 0 0))⟩] [0])
  (.seq (.seq (.rg [⟨(some 3), none, .mv (.t 0)⟩,
      ⟨(some 4), none, .eqn 1 false (.t 3)⟩] [0, 4])
  (.cond (.t 4)
    (.seq (.rg [⟨(some 2), none, .mv (.c (.slice none 0 0))⟩] [2])
    .ret)
    .skip))
  (.seq (.rg [⟨(some 5), none, .bslice 0 2 [(.str ⟨#[]⟩), (.str ⟨#[]⟩)] []⟩,
      ⟨(some 6), none, .mv (.t 0)⟩,
      ⟨(some 7), none, .app 2 32 (.t 5) (.t 6)⟩,
      ⟨(some 2), none, .mv (.t 7)⟩] [2])
  .ret))),
  [.t 2]⟩

/- slices.SortStableFunc[[]spillway/api.Pair,spillway/api.Pair] -/
def an49 : Ann := [[0], []]
def fn49 : Vs.Fn := ⟨2,
  (.rg [⟨(some 4), none, .mv (.t 0)⟩,
      ⟨(some 5), none, .mv (.t 0)⟩,
      ⟨(some 6), none, .len false (.t 5)⟩,
      ⟨(some 7), none, .mv (.t 1)⟩,
      ⟨(some 8), none, .call 0 (.f 72) [(.t 4), (.t 6), (.t 7)]⟩] []),
  []⟩

/- spillway/label.byName -/
def an50 : Ann := [[2, 3], [2], [4]]
def fn50 : Vs.Fn := ⟨2,
  (.seq (.rg [⟨(some 2), none, .box 2 (.t 0)⟩,
      ⟨(some 3), none, .box 2 (.t 1)⟩,
      ⟨(some 4), none, .mv (.c (.int .i64 0))⟩] [2, 3])
  (.seq (.rg [⟨(some 5), none, .fad 0 (.t 2)⟩,
      ⟨(some 6), none, .load false 1 (.t 5) false⟩,
      ⟨(some 7), none, .fad 0 (.t 3)⟩,
      ⟨(some 8), none, .load false 1 (.t 7) false⟩,
      ⟨(some 9), none, .call 2 (.f 47) [(.t 6), (.t 8)]⟩,
      ⟨(some 4), none, .mv (.t 9)⟩] [4])
  .ret)),
  [.t 4]⟩

/- slices.DeleteFunc[[]spillway/api.Pair,spillway/api.Pair] -/
def an51 : Ann := [[0, 1], [2], [0, 1, 5], [0, 1, 5, 12], [4], [0, 1, 5, 6], [0, 1, 5, 6], [0, 1, 5, 6, 19], [0, 1, 5, 6, 7], [2], [0, 1, 5, 6, 7, 29], [0, 1, 5, 6], [0, 1, 5, 6], [0, 1, 5, 6], [0, 5], [4]]
def fn51B0 : Cd :=
  (.seq (.seq (.rg [⟨(some 16), none, .mv (.t 6)⟩,
      ⟨(some 17), none, .mv (.t 0)⟩,
      ⟨(some 18), none, .len false (.t 17)⟩,
      ⟨(some 19), none, .bin .lss (.t 16) (.t 18)⟩] [0, 1, 5, 6, 19])
  (.cond (.t 19)
    .skip
    (.exit 0)))
  (.seq (.block 1
    (.seq (.rg [⟨(some 22), none, .mv (.t 0)⟩,
        ⟨(some 23), none, .mv (.t 6)⟩,
        ⟨(some 24), none, .iad 2 (.t 22) (.t 23)⟩,
        ⟨(some 25), none, .load true 2 (.t 24) false⟩,
        ⟨(some 7), none, .alloc [(.str ⟨#[]⟩), (.str ⟨#[]⟩)]⟩,
        ⟨none, none, .store 2 (.t 7) (.t 25)⟩] [0, 1, 5, 6, 7])
    (.seq (.rg [⟨(some 26), none, .mv (.t 1)⟩,
        ⟨(some 27), none, .load true 2 (.t 7) false⟩,
        ⟨(some 28), none, .call 2 (.t 26) [(.t 27)]⟩,
        ⟨(some 29), none, .un .not (.t 28)⟩] [0, 1, 5, 6, 7, 29])
    (.cond (.t 29)
      (.seq (.rg [⟨(some 30), none, .mv (.t 0)⟩,
          ⟨(some 31), none, .mv (.t 5)⟩,
          ⟨(some 32), none, .load true 2 (.t 7) false⟩,
          ⟨(some 33), none, .iad 2 (.t 30) (.t 31)⟩,
          ⟨none, none, .store 2 (.t 33) (.t 32)⟩] [0, 1, 5, 6])
      (.rg [⟨(some 34), none, .mv (.t 5)⟩,
          ⟨(some 35), none, .bin .add (.t 34) (.c (.int .i64 1))⟩,
          ⟨(some 5), none, .mv (.t 35)⟩] [0, 1, 5, 6]))
      .skip))))
  (.rg [⟨(some 20), none, .mv (.t 6)⟩,
      ⟨(some 21), none, .bin .add (.t 20) (.c (.int .i64 1))⟩,
      ⟨(some 6), none, .mv (.t 21)⟩] [0, 1, 5, 6])))
def fn51L0 : Cd := .loop [0, 1, 5, 6] fn51B0
def fn51 : Vs.Fn := ⟨2,
  (.seq (.rg [⟨(some 4), none, .mv (.c (.slice none 0 0))⟩] [0, 1])
  (.seq (.rg [⟨(some 8), none, .mv (.t 0)⟩,
      ⟨(some 9), none, .mv (.t 1)⟩,
      ⟨(some 10), none, .call 2 (.f 73) [(.t 8), (.t 9)]⟩,
      ⟨(some 5), none, .mv (.t 10)⟩] [0, 1, 5])
  (.seq (.seq (.rg [⟨(some 11), none, .mv (.t 5)⟩,
      ⟨(some 12), none, .bin .eql (.t 11) (.c (.int .i64 (-1)))⟩] [0, 1, 5, 12])
  (.cond (.t 12)
    (.seq (.rg [⟨(some 13), none, .mv (.t 0)⟩,
        ⟨(some 4), none, .mv (.t 13)⟩] [4])
    .ret)
    .skip))
  (.seq (.seq (.rg [⟨(some 14), none, .mv (.t 5)⟩,
      ⟨(some 15), none, .bin .add (.t 14) (.c (.int .i64 1))⟩,
      ⟨(some 6), none, .mv (.t 15)⟩] [0, 1, 5, 6])
  (.block 0
    fn51L0))
  (.seq (.rg [⟨(some 36), none, .mv (.t 0)⟩,
      ⟨(some 37), none, .mv (.t 5)⟩,
      ⟨(some 38), none, .slsl 2 (.t 36) (some (.t 37)) none none⟩,
      ⟨none, none, .clear 2 [(.str ⟨#[]⟩), (.str ⟨#[]⟩)] (.t 38)⟩] [0, 5])
  (.seq (.rg [⟨(some 39), none, .mv (.t 0)⟩,
      ⟨(some 40), none, .mv (.t 5)⟩,
      ⟨(some 41), none, .slsl 2 (.t 39) none (some (.t 40)) none⟩,
      ⟨(some 4), none, .mv (.t 41)⟩] [4])
  .ret)))))),
  [.t 4]⟩

/- spillway/label.Make$1 -/
def an52 : Ann := [[1], [2]]
def fn52 : Vs.Fn := ⟨1,
  (.seq (.rg [⟨(some 1), none, .box 2 (.t 0)⟩,
      ⟨(some 2), none, .mv (.c (.bool false))⟩] [1])
  (.seq (.rg [⟨(some 3), none, .fad 1 (.t 1)⟩,
      ⟨(some 4), none, .load false 1 (.t 3) false⟩,
      ⟨(some 5), none, .bin .eql (.t 4) (.c (.string ⟨#[]⟩))⟩,
      ⟨(some 2), none, .mv (.t 5)⟩] [2])
  .ret)),
  [.t 2]⟩

/- spillway/label.those -/
def an53 : Ann := [[0, 3], [0], [0], [4]]
def fn53 : Vs.Fn := ⟨2,
  (.seq (.rg [⟨(some 3), none, .box 1 (.t 1)⟩,
      ⟨(some 4), none, .mv (.c (.slice none 0 0))⟩] [0, 3])
  (.seq (.rg [⟨(some 5), none, .mv (.t 0)⟩,
      ⟨(some 6), none, .call 0 (.f 48) [(.t 5)]⟩,
      ⟨(some 7), none, .mkf 74 [(.t 3)]⟩,
      ⟨(some 8), none, .call 0 (.f 51) [(.t 6), (.t 7)]⟩,
      ⟨(some 4), none, .mv (.t 8)⟩] [4])
  .ret)),
  [.t 4]⟩

/- spillway/label.Keep$1 -/
def an54 : Ann := [[0, 1], [2], [3]]
def fn54 : Vs.Fn := ⟨2,
  (.seq (.rg [⟨(some 3), none, .mv (.c (.bool false))⟩] [0, 1])
  (.seq (.rg [⟨(some 4), none, .load false 1 (.t 1) false⟩,
      ⟨(some 5), none, .mv (.t 0)⟩,
      ⟨(some 6), none, .call 2 (.f 55) [(.t 4), (.t 5)]⟩,
      ⟨(some 3), none, .mv (.t 6)⟩] [3])
  .ret)),
  [.t 3]⟩

/- slices.Contains[[]string,string] -/
def an55 : Ann := [[0, 1], [2], [4]]
def fn55 : Vs.Fn := ⟨2,
  (.seq (.rg [⟨(some 4), none, .mv (.c (.bool false))⟩] [0, 1])
  (.seq (.rg [⟨(some 5), none, .mv (.t 0)⟩,
      ⟨(some 6), none, .mv (.t 1)⟩,
      ⟨(some 7), none, .call 2 (.f 75) [(.t 5), (.t 6)]⟩,
      ⟨(some 8), none, .bin .geq (.t 7) (.c (.int .i64 0))⟩,
      ⟨(some 4), none, .mv (.t 8)⟩] [4])
  .ret)),
  [.t 4]⟩

/- spillway/label.Without$1 -/
def an56 : Ann := [[0, 1], [2], [3]]
def fn56 : Vs.Fn := ⟨2,
  (.seq (.rg [⟨(some 3), none, .mv (.c (.bool false))⟩] [0, 1])
  (.seq (.rg [⟨(some 4), none, .mv (.t 0)⟩,
      ⟨(some 5), none, .bin .neq (.t 4) (.c (.string ⟨#[95, 95, 110, 97, 109, 101, 95, 95]⟩))⟩,
      ⟨(some 6), none, .mv (.t 5)⟩,
      ⟨(some 7), some (6, true), .load false 1 (.t 1) false⟩,
      ⟨(some 8), some (6, true), .mv (.t 0)⟩,
      ⟨(some 9), some (6, true), .call 2 (.f 55) [(.t 7), (.t 8)]⟩,
      ⟨(some 10), some (6, true), .un .not (.t 9)⟩,
      ⟨(some 11), none, .pick (.t 6) (.t 10) (.c (.bool false))⟩,
      ⟨(some 3), none, .mv (.t 11)⟩] [3])
  .ret)),
  [.t 3]⟩

/- slices.BinarySearchFunc[[]spillway/api.Pair,spillway/api.Pair,spillway/api.Pair] -/
def an57 : Ann := [[0, 2, 4], [0, 2, 4, 8], [0, 2, 4, 8, 9, 10], [0, 2, 4, 8, 9, 10], [0, 2, 4, 8, 9, 10, 17], [0, 2, 4, 8, 9, 10, 11], [2], [0, 2, 4, 8, 9, 10, 11, 31], [0, 2, 4, 8, 9, 10], [0, 2, 4, 8, 9, 10], [2], [6, 7]]
def fn57B0 : Cd :=
  (.seq (.seq (.rg [⟨(some 15), none, .mv (.t 9)⟩,
      ⟨(some 16), none, .mv (.t 10)⟩,
      ⟨(some 17), none, .bin .lss (.t 15) (.t 16)⟩] [0, 2, 4, 8, 9, 10, 17])
  (.cond (.t 17)
    .skip
    (.exit 0)))
  (.block 1
    (.seq (.rg [⟨(some 18), none, .mv (.t 9)⟩,
        ⟨(some 19), none, .mv (.t 10)⟩,
        ⟨(some 20), none, .bin .add (.t 18) (.t 19)⟩,
        ⟨(some 21), none, .cvi .u64 (.t 20)⟩,
        ⟨(some 22), none, .bin .shr (.t 21) (.c (.int .u64 1))⟩,
        ⟨(some 23), none, .cvi .i64 (.t 22)⟩,
        ⟨(some 11), none, .mv (.t 23)⟩] [0, 2, 4, 8, 9, 10, 11])
    (.seq (.rg [⟨(some 24), none, .mv (.t 2)⟩,
        ⟨(some 25), none, .mv (.t 0)⟩,
        ⟨(some 26), none, .mv (.t 11)⟩,
        ⟨(some 27), none, .iad 2 (.t 25) (.t 26)⟩,
        ⟨(some 28), none, .load true 2 (.t 27) false⟩,
        ⟨(some 29), none, .load true 2 (.t 4) false⟩,
        ⟨(some 30), none, .call 2 (.t 24) [(.t 28), (.t 29)]⟩,
        ⟨(some 31), none, .bin .lss (.t 30) (.c (.int .i64 0))⟩] [0, 2, 4, 8, 9, 10, 11, 31])
    (.cond (.t 31)
      (.rg [⟨(some 32), none, .mv (.t 11)⟩,
          ⟨(some 33), none, .bin .add (.t 32) (.c (.int .i64 1))⟩,
          ⟨(some 9), none, .mv (.t 33)⟩] [0, 2, 4, 8, 9, 10])
      (.rg [⟨(some 34), none, .mv (.t 11)⟩,
          ⟨(some 10), none, .mv (.t 34)⟩] [0, 2, 4, 8, 9, 10]))))))
def fn57L0 : Cd := .loop [0, 2, 4, 8, 9, 10] fn57B0
def fn57 : Vs.Fn := ⟨3,
  (.seq (.rg [⟨(some 4), none, .box 2 (.t 1)⟩,
      ⟨(some 6), none, .mv (.c (.int .i64 0))⟩,
      ⟨(some 7), none, .mv (.c (.bool false))⟩] [0, 2, 4])
  (.seq (.rg [⟨(some 12), none, .mv (.t 0)⟩,
      ⟨(some 13), none, .len false (.t 12)⟩,
      ⟨(some 8), none, .mv (.t 13)⟩] [0, 2, 4, 8])
  (.seq (.rg [⟨(some 14), none, .mv (.t 8)⟩,
      ⟨(some 9), none, .mv (.c (.int .i64 0))⟩,
      ⟨(some 10), none, .mv (.t 14)⟩] [0, 2, 4, 8, 9, 10])
  (.seq (.block 0
    fn57L0)
  (.seq (.rg [⟨(some 35), none, .mv (.t 9)⟩,
      ⟨(some 36), none, .mv (.t 9)⟩,
      ⟨(some 37), none, .mv (.t 8)⟩,
      ⟨(some 38), none, .bin .lss (.t 36) (.t 37)⟩,
      ⟨(some 39), none, .mv (.t 38)⟩,
      ⟨(some 40), some (39, true), .mv (.t 2)⟩,
      ⟨(some 41), some (39, true), .mv (.t 0)⟩,
      ⟨(some 42), some (39, true), .mv (.t 9)⟩,
      ⟨(some 43), some (39, true), .iad 2 (.t 41) (.t 42)⟩,
      ⟨(some 44), some (39, true), .load true 2 (.t 43) false⟩,
      ⟨(some 45), some (39, true), .load true 2 (.t 4) false⟩,
      ⟨(some 46), some (39, true), .call 2 (.t 40) [(.t 44), (.t 45)]⟩,
      ⟨(some 47), some (39, true), .bin .eql (.t 46) (.c (.int .i64 0))⟩,
      ⟨(some 48), none, .pick (.t 39) (.t 47) (.c (.bool false))⟩,
      ⟨(some 6), none, .mv (.t 35)⟩,
      ⟨(some 7), none, .mv (.t 48)⟩] [6, 7])
  .ret))))),
  [.t 6, .t 7]⟩

/- slices.Delete[[]spillway/api.Pair,spillway/api.Pair] -/
def an58 : Ann := [[0, 1, 2], [0, 1, 2], [0, 1, 2, 16], [6], [0, 1, 2, 7], [0, 7], [0], [6]]
def fn58 : Vs.Fn := ⟨3,
  (.seq (.rg [⟨(some 6), none, .mv (.c (.slice none 0 0))⟩] [0, 1, 2])
  (.seq (.rg [⟨(some 8), none, .mv (.t 0)⟩,
      ⟨(some 9), none, .mv (.t 1)⟩,
      ⟨(some 10), none, .mv (.t 2)⟩,
      ⟨(some 11), none, .mv (.t 0)⟩,
      ⟨(some 12), none, .len false (.t 11)⟩,
      ⟨(some 13), none, .slsl 2 (.t 8) (some (.t 9)) (some (.t 10)) (some (.t 12))⟩] [0, 1, 2])
  (.seq (.seq (.rg [⟨(some 14), none, .mv (.t 1)⟩,
      ⟨(some 15), none, .mv (.t 2)⟩,
      ⟨(some 16), none, .bin .eql (.t 14) (.t 15)⟩] [0, 1, 2, 16])
  (.cond (.t 16)
    (.seq (.rg [⟨(some 17), none, .mv (.t 0)⟩,
        ⟨(some 6), none, .mv (.t 17)⟩] [6])
    .ret)
    .skip))
  (.seq (.rg [⟨(some 18), none, .mv (.t 0)⟩,
      ⟨(some 19), none, .len false (.t 18)⟩,
      ⟨(some 7), none, .mv (.t 19)⟩] [0, 1, 2, 7])
  (.seq (.rg [⟨(some 20), none, .mv (.t 0)⟩,
      ⟨(some 21), none, .mv (.t 1)⟩,
      ⟨(some 22), none, .slsl 2 (.t 20) none (some (.t 21)) none⟩,
      ⟨(some 23), none, .mv (.t 0)⟩,
      ⟨(some 24), none, .mv (.t 2)⟩,
      ⟨(some 25), none, .slsl 2 (.t 23) (some (.t 24)) none none⟩,
      ⟨(some 26), none, .app 2 32 (.t 22) (.t 25)⟩,
      ⟨(some 0), none, .mv (.t 26)⟩] [0, 7])
  (.seq (.rg [⟨(some 27), none, .mv (.t 0)⟩,
      ⟨(some 28), none, .mv (.t 0)⟩,
      ⟨(some 29), none, .len false (.t 28)⟩,
      ⟨(some 30), none, .mv (.t 7)⟩,
      ⟨(some 31), none, .slsl 2 (.t 27) (some (.t 29)) (some (.t 30)) none⟩,
      ⟨none, none, .clear 2 [(.str ⟨#[]⟩), (.str ⟨#[]⟩)] (.t 31)⟩] [0])
  (.seq (.rg [⟨(some 32), none, .mv (.t 0)⟩,
      ⟨(some 6), none, .mv (.t 32)⟩] [6])
  .ret))))))),
  [.t 6]⟩

/- slices.Insert[[]spillway/api.Pair,spillway/api.Pair] -/
def an59 : Ann := [[0, 1, 2], [0, 1, 2], [0, 1, 2, 7], [0, 1, 2, 7, 16], [6], [0, 1, 2, 7, 8], [0, 1, 2, 7, 8, 22], [6], [0, 1, 2, 7, 8, 31], [0, 1, 2, 7, 9], [0, 1, 7, 9], [9], [6], [0, 1, 2, 7, 8], [2], [0, 1, 2, 7, 8, 68], [0, 1, 2], [0], [6], [0, 1, 7], [2], [0], [6]]
def fn59 : Vs.Fn := ⟨3, insW 2 32, [.t 3]⟩

/- spillway/spillwayref3.Value -/
def an60 : Ann := [[0], [0, 3], [0, 3], [0, 3, 7], [0, 3, 13], [2], [0, 3], [2]]
def fn60B0 : Cd :=
  (.seq (.seq (.rg [⟨(some 4), none, .mv (.t 3)⟩,
      ⟨(some 5), none, .mv (.t 0)⟩,
      ⟨(some 6), none, .len true (.t 5)⟩,
      ⟨(some 7), none, .bin .lss (.t 4) (.t 6)⟩] [0, 3, 7])
  (.cond (.t 7)
    .skip
    (.exit 0)))
  (.seq (.block 1
    (.seq (.rg [⟨(some 10), none, .mv (.t 0)⟩,
        ⟨(some 11), none, .mv (.t 3)⟩,
        ⟨(some 12), none, .ist (.t 10) (.t 11)⟩,
        ⟨(some 13), none, .bin .eql (.t 12) (.c (.int .u8 10))⟩] [0, 3, 13])
    (.cond (.t 13)
      (.seq (.rg [⟨(some 2), none, .mv (.c (.bool false))⟩] [2])
      .ret)
      .skip)))
  (.rg [⟨(some 8), none, .mv (.t 3)⟩,
      ⟨(some 9), none, .bin .add (.t 8) (.c (.int .i64 1))⟩,
      ⟨(some 3), none, .mv (.t 9)⟩] [0, 3])))
def fn60L0 : Cd := .loop [0, 3] fn60B0
def fn60 : Vs.Fn := ⟨1,
  (.seq (.rg [⟨(some 2), none, .mv (.c (.bool false))⟩] [0])
  (.seq (.seq (.rg [⟨(some 3), none, .mv (.c (.int .i64 0))⟩] [0, 3])
  (.block 0
    fn60L0))
  (.seq (.rg [⟨(some 14), none, .mv (.t 0)⟩,
      ⟨(some 15), none, .len true (.t 14)⟩,
      ⟨(some 16), none, .bin .leq (.t 15) (.c (.int .i64 30))⟩,
      ⟨(some 2), none, .mv (.t 16)⟩] [2])
  .ret))),
  [.t 2]⟩

/- spillway/spillwayref3.Quote -/
def an63 : Ann := [[0], [0, 3], [0, 3, 4], [0, 3, 4], [0, 3, 4, 8], [0, 3, 4, 20], [0, 3, 4], [0, 3, 4], [0, 3, 4], [2]]
def fn63B0 : Cd :=
  (.seq (.seq (.rg [⟨(some 5), none, .mv (.t 4)⟩,
      ⟨(some 6), none, .mv (.t 0)⟩,
      ⟨(some 7), none, .len true (.t 6)⟩,
      ⟨(some 8), none, .bin .lss (.t 5) (.t 7)⟩] [0, 3, 4, 8])
  (.cond (.t 8)
    .skip
    (.exit 0)))
  (.seq (.block 1
    (.seq (.seq (.rg [⟨(some 11), none, .mv (.t 0)⟩,
        ⟨(some 12), none, .mv (.t 4)⟩,
        ⟨(some 13), none, .ist (.t 11) (.t 12)⟩,
        ⟨(some 14), none, .bin .eql (.t 13) (.c (.int .u8 34))⟩,
        ⟨(some 15), none, .mv (.t 14)⟩,
        ⟨(some 16), some (15, false), .mv (.t 0)⟩,
        ⟨(some 17), some (15, false), .mv (.t 4)⟩,
        ⟨(some 18), some (15, false), .ist (.t 16) (.t 17)⟩,
        ⟨(some 19), some (15, false), .bin .eql (.t 18) (.c (.int .u8 92))⟩,
        ⟨(some 20), none, .pick (.t 15) (.c (.bool true)) (.t 19)⟩] [0, 3, 4, 20])
    (.cond (.t 20)
      (.rg [⟨(some 21), none, .mv (.t 3)⟩,
          ⟨(some 22), none, .bin .add (.t 21) (.c (.string ⟨#[92]⟩))⟩,
          ⟨(some 3), none, .mv (.t 22)⟩] [0, 3, 4])
      .skip))
    (.rg [⟨(some 23), none, .mv (.t 3)⟩,
        ⟨(some 24), none, .mv (.t 0)⟩,
        ⟨(some 25), none, .mv (.t 4)⟩,
        ⟨(some 26), none, .mv (.t 4)⟩,
        ⟨(some 27), none, .bin .add (.t 26) (.c (.int .i64 1))⟩,
        ⟨(some 28), none, .slst (.t 24) (some (.t 25)) (some (.t 27))⟩,
        ⟨(some 29), none, .bin .add (.t 23) (.t 28)⟩,
        ⟨(some 3), none, .mv (.t 29)⟩] [0, 3, 4])))
  (.rg [⟨(some 9), none, .mv (.t 4)⟩,
      ⟨(some 10), none, .bin .add (.t 9) (.c (.int .i64 1))⟩,
      ⟨(some 4), none, .mv (.t 10)⟩] [0, 3, 4])))
def fn63L0 : Cd := .loop [0, 3, 4] fn63B0
def fn63 : Vs.Fn := ⟨1,
  (.seq (.rg [⟨(some 2), none, .mv (.c (.string ⟨#[]⟩))⟩] [0])
  (.seq (.rg [⟨(some 3), none, .mv (.c (.string ⟨#[34]⟩))⟩] [0, 3])
  (.seq (.seq (.rg [⟨(some 4), none, .mv (.c (.int .i64 0))⟩] [0, 3, 4])
  (.block 0
    fn63L0))
  (.seq (.rg [⟨(some 30), none, .mv (.t 3)⟩,
      ⟨(some 31), none, .bin .add (.t 30) (.c (.string ⟨#[34]⟩))⟩,
      ⟨(some 2), none, .mv (.t 31)⟩] [2])
  .ret)))),
  [.t 2]⟩

/- internal/stringslite.Cut -/
def an64 : Ann := [[0, 1], [2], [0, 1, 7], [0, 1, 7, 12], [4, 5, 6], [4, 5, 6]]
def fn64 : Vs.Fn := ⟨2,
  (.seq (.rg [⟨(some 4), none, .mv (.c (.string ⟨#[]⟩))⟩,
      ⟨(some 5), none, .mv (.c (.string ⟨#[]⟩))⟩,
      ⟨(some 6), none, .mv (.c (.bool false))⟩] [0, 1])
  (.seq (.seq (.rg [⟨(some 8), none, .mv (.t 0)⟩,
      ⟨(some 9), none, .mv (.t 1)⟩,
      ⟨(some 10), none, .call 2 (.f 78) [(.t 8), (.t 9)]⟩,
      ⟨(some 7), none, .mv (.t 10)⟩] [0, 1, 7])
  (.seq (.rg [⟨(some 11), none, .mv (.t 7)⟩,
      ⟨(some 12), none, .bin .geq (.t 11) (.c (.int .i64 0))⟩] [0, 1, 7, 12])
  (.cond (.t 12)
    (.seq (.rg [⟨(some 13), none, .mv (.t 0)⟩,
        ⟨(some 14), none, .mv (.t 7)⟩,
        ⟨(some 15), none, .slst (.t 13) none (some (.t 14))⟩,
        ⟨(some 16), none, .mv (.t 0)⟩,
        ⟨(some 17), none, .mv (.t 7)⟩,
        ⟨(some 18), none, .mv (.t 1)⟩,
        ⟨(some 19), none, .len true (.t 18)⟩,
        ⟨(some 20), none, .bin .add (.t 17) (.t 19)⟩,
        ⟨(some 21), none, .slst (.t 16) (some (.t 20)) none⟩,
        ⟨(some 4), none, .mv (.t 15)⟩,
        ⟨(some 5), none, .mv (.t 21)⟩,
        ⟨(some 6), none, .mv (.c (.bool true))⟩] [4, 5, 6])
    .ret)
    .skip)))
  (.seq (.rg [⟨(some 22), none, .mv (.t 0)⟩,
      ⟨(some 4), none, .mv (.t 22)⟩,
      ⟨(some 5), none, .mv (.c (.string ⟨#[]⟩))⟩,
      ⟨(some 6), none, .mv (.c (.bool false))⟩] [4, 5, 6])
  .ret))),
  [.t 4, .t 5, .t 6]⟩

/- (*strings.Builder).String -/
def an65 : Ann := [[0], [2]]
def fn65 : Vs.Fn := ⟨1,
  (.seq (.rg [⟨(some 2), none, .mv (.c (.string ⟨#[]⟩))⟩] [0])
  (.seq (.rg [⟨(some 3), none, .mv (.t 0)⟩,
      ⟨(some 4), none, .nilck (.t 3)⟩,
      ⟨(some 5), none, .fad 1 (.t 4)⟩,
      ⟨(some 6), none, .load false 1 (.t 5) false⟩,
      ⟨(some 7), none, .usd (.t 6)⟩,
      ⟨(some 8), none, .mv (.t 0)⟩,
      ⟨(some 9), none, .nilck (.t 8)⟩,
      ⟨(some 10), none, .fad 1 (.t 9)⟩,
      ⟨(some 11), none, .load false 1 (.t 10) false⟩,
      ⟨(some 12), none, .len false (.t 11)⟩,
      ⟨(some 13), none, .ust 5 (.t 7) (.t 12)⟩,
      ⟨(some 2), none, .mv (.t 13)⟩] [2])
  .ret)),
  [.t 2]⟩

/- (*strings.Builder).WriteByte -/
def an66 : Ann := [[0, 1], [0], [0, 1], [], [4]]
def fn66 : Vs.Fn := ⟨2,
  (.seq (.rg [⟨(some 4), none, .mv (.c .nilIface)⟩] [0, 1])
  (.seq (.rg [⟨(some 5), none, .mv (.t 0)⟩,
      ⟨(some 6), none, .call 0 (.f 79) [(.t 5)]⟩] [0, 1])
  (.seq (.rg [⟨(some 7), none, .mv (.t 0)⟩,
      ⟨(some 8), none, .mv (.t 0)⟩,
      ⟨(some 9), none, .nilck (.t 8)⟩,
      ⟨(some 10), none, .fad 1 (.t 9)⟩,
      ⟨(some 11), none, .load false 1 (.t 10) false⟩,
      ⟨(some 12), none, .mv (.t 1)⟩,
      ⟨(some 13), none, .bslice 1 1 [(.int .u8 0)] [(0, (.t 12))]⟩,
      ⟨(some 14), none, .apb 5 (.t 11) (.t 13)⟩,
      ⟨(some 15), none, .nilck (.t 7)⟩,
      ⟨(some 16), none, .fad 1 (.t 15)⟩,
      ⟨none, none, .store 1 (.t 16) (.t 14)⟩] [])
  (.seq (.rg [⟨(some 4), none, .mv (.c .nilIface)⟩] [4])
  .ret)))),
  [.t 4]⟩

/- internal/stringslite.TrimPrefix -/
def an67 : Ann := [[0, 1], [2], [0, 1, 7], [4], [4]]
def fn67 : Vs.Fn := ⟨2,
  (.seq (.rg [⟨(some 4), none, .mv (.c (.string ⟨#[]⟩))⟩] [0, 1])
  (.seq (.seq (.rg [⟨(some 5), none, .mv (.t 0)⟩,
      ⟨(some 6), none, .mv (.t 1)⟩,
      ⟨(some 7), none, .call 2 (.f 80) [(.t 5), (.t 6)]⟩] [0, 1, 7])
  (.cond (.t 7)
    (.seq (.rg [⟨(some 8), none, .mv (.t 0)⟩,
        ⟨(some 9), none, .mv (.t 1)⟩,
        ⟨(some 10), none, .len true (.t 9)⟩,
        ⟨(some 11), none, .slst (.t 8) (some (.t 10)) none⟩,
        ⟨(some 4), none, .mv (.t 11)⟩] [4])
    .ret)
    .skip))
  (.seq (.rg [⟨(some 12), none, .mv (.t 0)⟩,
      ⟨(some 4), none, .mv (.t 12)⟩] [4])
  .ret))),
  [.t 4]⟩

/- strings.IndexByte -/
def an68 : Ann := [[0, 1], [2], [4]]
def fn68 : Vs.Fn := ⟨2,
  (.seq (.rg [⟨(some 4), none, .mv (.c (.int .i64 0))⟩] [0, 1])
  (.seq (.rg [⟨(some 5), none, .mv (.t 0)⟩,
      ⟨(some 6), none, .mv (.t 1)⟩,
      ⟨(some 7), none, .call 2 (.f 81) [(.t 5), (.t 6)]⟩,
      ⟨(some 4), none, .mv (.t 7)⟩] [4])
  .ret)),
  [.t 4]⟩

/- (*strings.Builder).Grow -/
def an69 : Ann := [[0], [0, 1], [0, 1, 7], [0, 1], [0, 1, 21], [0], []]
def fn69 : Vs.Fn := ⟨2,
  (.seq (.rg [⟨(some 4), none, .mv (.t 0)⟩,
      ⟨(some 5), none, .call 0 (.f 79) [(.t 4)]⟩] [0, 1])
  (.seq (.seq (.rg [⟨(some 6), none, .mv (.t 1)⟩,
      ⟨(some 7), none, .bin .lss (.t 6) (.c (.int .i64 0))⟩] [0, 1, 7])
  (.cond (.t 7)
    .bad
    .skip))
  (.seq (.rg [⟨(some 9), none, .mv (.t 0)⟩,
      ⟨(some 10), none, .nilck (.t 9)⟩,
      ⟨(some 11), none, .fad 1 (.t 10)⟩,
      ⟨(some 12), none, .load false 1 (.t 11) false⟩,
      ⟨(some 13), none, .capo (.t 12)⟩,
      ⟨(some 14), none, .mv (.t 0)⟩,
      ⟨(some 15), none, .nilck (.t 14)⟩,
      ⟨(some 16), none, .fad 1 (.t 15)⟩,
      ⟨(some 17), none, .load false 1 (.t 16) false⟩,
      ⟨(some 18), none, .len false (.t 17)⟩,
      ⟨(some 19), none, .bin .sub (.t 13) (.t 18)⟩,
      ⟨(some 20), none, .mv (.t 1)⟩,
      ⟨(some 21), none, .bin .lss (.t 19) (.t 20)⟩] [0, 1, 21])
  (.cond (.t 21)
    (.rg [⟨(some 22), none, .mv (.t 0)⟩,
        ⟨(some 23), none, .mv (.t 1)⟩,
        ⟨(some 24), none, .call 0 (.f 82) [(.t 22), (.t 23)]⟩] [])
    .skip)))),
  []⟩

/- (*strings.Builder).WriteString -/
def an70 : Ann := [[0, 1], [0], [0, 1], [1], [4, 5]]
def fn70 : Vs.Fn := ⟨2,
  (.seq (.rg [⟨(some 4), none, .mv (.c (.int .i64 0))⟩,
      ⟨(some 5), none, .mv (.c .nilIface)⟩] [0, 1])
  (.seq (.rg [⟨(some 6), none, .mv (.t 0)⟩,
      ⟨(some 7), none, .call 0 (.f 79) [(.t 6)]⟩] [0, 1])
  (.seq (.rg [⟨(some 8), none, .mv (.t 0)⟩,
      ⟨(some 9), none, .mv (.t 0)⟩,
      ⟨(some 10), none, .nilck (.t 9)⟩,
      ⟨(some 11), none, .fad 1 (.t 10)⟩,
      ⟨(some 12), none, .load false 1 (.t 11) false⟩,
      ⟨(some 13), none, .mv (.t 1)⟩,
      ⟨(some 14), none, .apb 5 (.t 12) (.t 13)⟩,
      ⟨(some 15), none, .nilck (.t 8)⟩,
      ⟨(some 16), none, .fad 1 (.t 15)⟩,
      ⟨none, none, .store 1 (.t 16) (.t 14)⟩] [1])
  (.seq (.rg [⟨(some 17), none, .mv (.t 1)⟩,
      ⟨(some 18), none, .len true (.t 17)⟩,
      ⟨(some 4), none, .mv (.t 18)⟩,
      ⟨(some 5), none, .mv (.c .nilIface)⟩] [4, 5])
  .ret)))),
  [.t 4, .t 5]⟩

/- internal/bytealg.CompareString -/
def an71 : Ann := [[0, 1], [2], [4]]
def fn71 : Vs.Fn := ⟨2,
  (.seq (.rg [⟨(some 4), none, .mv (.c (.int .i64 0))⟩] [0, 1])
  (.seq (.rg [⟨(some 5), none, .mv (.t 0)⟩,
      ⟨(some 6), none, .mv (.t 1)⟩,
      ⟨(some 7), none, .pr .cmps [(.t 5), (.t 6)]⟩,
      ⟨(some 4), none, .mv (.t 7)⟩] [4])
  .ret)),
  [.t 4]⟩

/- slices.stableCmpFunc[spillway/api.Pair] -/
def an72 : Ann := [[0, 1, 2, 6], [0, 1, 2, 6, 7, 8], [0, 1, 2, 6, 7, 8], [0, 1, 2, 6, 7, 8, 13], [0], [0, 1, 2, 6, 8], [0, 1, 2, 6, 7, 8], [0, 1, 2, 6, 7, 8], [0], [0, 1, 2, 6], [0, 1, 2, 6], [0, 1, 2, 6, 30], [0, 1, 2, 6, 7, 8], [0, 1, 2, 6, 7, 8], [0, 1, 2, 6, 7, 8, 35], [0], [0, 1, 2, 6, 8], [0, 1, 2, 6, 7, 8], [0, 1, 2, 6, 7, 8], [0, 1, 2, 6, 7, 9], [0, 1, 2, 6, 7, 9, 54], [0], [0, 1, 2, 6], [0, 1, 2, 6]]
def fn72B0 : Cd :=
  (.seq (.seq (.rg [⟨(some 11), none, .mv (.t 8)⟩,
      ⟨(some 12), none, .mv (.t 1)⟩,
      ⟨(some 13), none, .bin .leq (.t 11) (.t 12)⟩] [0, 1, 2, 6, 7, 8, 13])
  (.cond (.t 13)
    .skip
    (.exit 0)))
  (.block 1
    (.seq (.rg [⟨(some 14), none, .mv (.t 0)⟩,
        ⟨(some 15), none, .mv (.t 7)⟩,
        ⟨(some 16), none, .mv (.t 8)⟩,
        ⟨(some 17), none, .mv (.t 2)⟩,
        ⟨(some 18), none, .call 0 (.f 84) [(.t 14), (.t 15), (.t 16), (.t 17)]⟩] [0, 1, 2, 6, 8])
    (.seq (.rg [⟨(some 19), none, .mv (.t 8)⟩,
        ⟨(some 7), none, .mv (.t 19)⟩] [0, 1, 2, 6, 7, 8])
    (.rg [⟨(some 20), none, .mv (.t 8)⟩,
        ⟨(some 21), none, .mv (.t 6)⟩,
        ⟨(some 22), none, .bin .add (.t 20) (.t 21)⟩,
        ⟨(some 8), none, .mv (.t 22)⟩] [0, 1, 2, 6, 7, 8])))))
def fn72L0 : Cd := .loop [0, 1, 2, 6, 7, 8] fn72B0
def fn72B1 : Cd :=
  (.seq (.seq (.rg [⟨(some 33), none, .mv (.t 8)⟩,
      ⟨(some 34), none, .mv (.t 1)⟩,
      ⟨(some 35), none, .bin .leq (.t 33) (.t 34)⟩] [0, 1, 2, 6, 7, 8, 35])
  (.cond (.t 35)
    .skip
    (.exit 4)))
  (.block 5
    (.seq (.rg [⟨(some 36), none, .mv (.t 0)⟩,
        ⟨(some 37), none, .mv (.t 7)⟩,
        ⟨(some 38), none, .mv (.t 7)⟩,
        ⟨(some 39), none, .mv (.t 6)⟩,
        ⟨(some 40), none, .bin .add (.t 38) (.t 39)⟩,
        ⟨(some 41), none, .mv (.t 8)⟩,
        ⟨(some 42), none, .mv (.t 2)⟩,
        ⟨(some 43), none, .call 0 (.f 85) [(.t 36), (.t 37), (.t 40), (.t 41), (.t 42)]⟩] [0, 1, 2, 6, 8])
    (.seq (.rg [⟨(some 44), none, .mv (.t 8)⟩,
        ⟨(some 7), none, .mv (.t 44)⟩] [0, 1, 2, 6, 7, 8])
    (.rg [⟨(some 45), none, .mv (.t 8)⟩,
        ⟨(some 46), none, .mv (.t 6)⟩,
        ⟨(some 47), none, .bin .mul (.c (.int .i64 2)) (.t 46)⟩,
        ⟨(some 48), none, .bin .add (.t 45) (.t 47)⟩,
        ⟨(some 8), none, .mv (.t 48)⟩] [0, 1, 2, 6, 7, 8])))))
def fn72L1 : Cd := .loop [0, 1, 2, 6, 7, 8] fn72B1
def fn72B2 : Cd :=
  (.seq (.seq (.rg [⟨(some 28), none, .mv (.t 6)⟩,
      ⟨(some 29), none, .mv (.t 1)⟩,
      ⟨(some 30), none, .bin .lss (.t 28) (.t 29)⟩] [0, 1, 2, 6, 30])
  (.cond (.t 30)
    .skip
    (.exit 2)))
  (.block 3
    (.seq (.rg [⟨(some 31), none, .mv (.t 6)⟩,
        ⟨(some 32), none, .bin .mul (.c (.int .i64 2)) (.t 31)⟩,
        ⟨(some 7), none, .mv (.c (.int .i64 0))⟩,
        ⟨(some 8), none, .mv (.t 32)⟩] [0, 1, 2, 6, 7, 8])
    (.seq (.block 4
      fn72L1)
    (.seq (.seq (.rg [⟨(some 49), none, .mv (.t 7)⟩,
        ⟨(some 50), none, .mv (.t 6)⟩,
        ⟨(some 51), none, .bin .add (.t 49) (.t 50)⟩,
        ⟨(some 9), none, .mv (.t 51)⟩] [0, 1, 2, 6, 7, 9])
    (.seq (.rg [⟨(some 52), none, .mv (.t 9)⟩,
        ⟨(some 53), none, .mv (.t 1)⟩,
        ⟨(some 54), none, .bin .lss (.t 52) (.t 53)⟩] [0, 1, 2, 6, 7, 9, 54])
    (.cond (.t 54)
      (.rg [⟨(some 55), none, .mv (.t 0)⟩,
          ⟨(some 56), none, .mv (.t 7)⟩,
          ⟨(some 57), none, .mv (.t 9)⟩,
          ⟨(some 58), none, .mv (.t 1)⟩,
          ⟨(some 59), none, .mv (.t 2)⟩,
          ⟨(some 60), none, .call 0 (.f 85) [(.t 55), (.t 56), (.t 57), (.t 58), (.t 59)]⟩] [0, 1, 2, 6])
      .skip)))
    (.rg [⟨(some 61), none, .mv (.t 6)⟩,
        ⟨(some 62), none, .bin .mul (.t 61) (.c (.int .i64 2))⟩,
        ⟨(some 6), none, .mv (.t 62)⟩] [0, 1, 2, 6]))))))
def fn72L2 : Cd := .loop [0, 1, 2, 6] fn72B2
def fn72 : Vs.Fn := ⟨3,
  (.seq (.rg [⟨(some 6), none, .mv (.c (.int .i64 20))⟩] [0, 1, 2, 6])
  (.seq (.rg [⟨(some 10), none, .mv (.t 6)⟩,
      ⟨(some 7), none, .mv (.c (.int .i64 0))⟩,
      ⟨(some 8), none, .mv (.t 10)⟩] [0, 1, 2, 6, 7, 8])
  (.seq (.block 0
    fn72L0)
  (.seq (.rg [⟨(some 23), none, .mv (.t 0)⟩,
      ⟨(some 24), none, .mv (.t 7)⟩,
      ⟨(some 25), none, .mv (.t 1)⟩,
      ⟨(some 26), none, .mv (.t 2)⟩,
      ⟨(some 27), none, .call 0 (.f 84) [(.t 23), (.t 24), (.t 25), (.t 26)]⟩] [0, 1, 2, 6])
  (.block 2
    fn72L2))))),
  []⟩

/- slices.IndexFunc[[]spillway/api.Pair,spillway/api.Pair] -/
def an73 : Ann := [[0, 1], [0, 1, 7, 8], [0, 1, 7, 8], [0, 1, 7, 8, 9], [0, 1, 5, 7, 8], [2], [0, 1, 5, 7, 8, 16], [4], [0, 1, 7, 8], [4]]
def fn73B0 : Cd :=
  (.seq (.rg [⟨(some 9), none, .bin .lss (.t 8) (.t 7)⟩] [0, 1, 7, 8, 9])
  (.seq (.cond (.t 9)
    .skip
    (.exit 0))
  (.seq (.block 1
    (.seq (.rg [⟨(some 10), none, .mv (.t 8)⟩,
        ⟨(some 5), none, .mv (.t 10)⟩] [0, 1, 5, 7, 8])
    (.seq (.rg [⟨(some 11), none, .mv (.t 1)⟩,
        ⟨(some 12), none, .mv (.t 0)⟩,
        ⟨(some 13), none, .mv (.t 5)⟩,
        ⟨(some 14), none, .iad 2 (.t 12) (.t 13)⟩,
        ⟨(some 15), none, .load true 2 (.t 14) false⟩,
        ⟨(some 16), none, .call 2 (.t 11) [(.t 15)]⟩] [0, 1, 5, 7, 8, 16])
    (.cond (.t 16)
      (.seq (.rg [⟨(some 17), none, .mv (.t 5)⟩,
          ⟨(some 4), none, .mv (.t 17)⟩] [4])
      .ret)
      .skip))))
  (.rg [⟨(some 18), none, .bin .add (.t 8) (.c (.int .i64 1))⟩,
      ⟨(some 8), none, .mv (.t 18)⟩] [0, 1, 7, 8]))))
def fn73L0 : Cd := .loop [0, 1, 7, 8] fn73B0
def fn73 : Vs.Fn := ⟨2,
  (.seq (.rg [⟨(some 4), none, .mv (.c (.int .i64 0))⟩] [0, 1])
  (.seq (.seq (.rg [⟨(some 6), none, .mv (.t 0)⟩,
      ⟨(some 7), none, .len false (.t 6)⟩,
      ⟨(some 8), none, .mv (.c (.int .i64 0))⟩] [0, 1, 7, 8])
  (.block 0
    fn73L0))
  (.seq (.rg [⟨(some 4), none, .mv (.c (.int .i64 (-1)))⟩] [4])
  .ret))),
  [.t 4]⟩

/- spillway/label.those$1 -/
def an74 : Ann := [[1, 2], [2], [3]]
def fn74 : Vs.Fn := ⟨2,
  (.seq (.rg [⟨(some 2), none, .box 2 (.t 0)⟩,
      ⟨(some 3), none, .mv (.c (.bool false))⟩] [1, 2])
  (.seq (.rg [⟨(some 4), none, .load false 1 (.t 1) false⟩,
      ⟨(some 5), none, .fad 0 (.t 2)⟩,
      ⟨(some 6), none, .load false 1 (.t 5) false⟩,
      ⟨(some 7), none, .call 2 (.t 4) [(.t 6)]⟩,
      ⟨(some 8), none, .un .not (.t 7)⟩,
      ⟨(some 3), none, .mv (.t 8)⟩] [3])
  .ret)),
  [.t 3]⟩

/- slices.Index[[]string,string] -/
def an75 : Ann := [[0, 1], [0, 1, 7, 8], [0, 1, 7, 8], [0, 1, 7, 8, 9], [0, 1, 5, 7, 8], [0, 1, 5, 7, 8, 16], [4], [0, 1, 7, 8], [4]]
def fn75B0 : Cd :=
  (.seq (.rg [⟨(some 9), none, .bin .lss (.t 8) (.t 7)⟩] [0, 1, 7, 8, 9])
  (.seq (.cond (.t 9)
    .skip
    (.exit 0))
  (.seq (.block 1
    (.seq (.rg [⟨(some 10), none, .mv (.t 8)⟩,
        ⟨(some 5), none, .mv (.t 10)⟩] [0, 1, 5, 7, 8])
    (.seq (.rg [⟨(some 11), none, .mv (.t 1)⟩,
        ⟨(some 12), none, .mv (.t 0)⟩,
        ⟨(some 13), none, .mv (.t 5)⟩,
        ⟨(some 14), none, .iad 1 (.t 12) (.t 13)⟩,
        ⟨(some 15), none, .load false 1 (.t 14) false⟩,
        ⟨(some 16), none, .bin .eql (.t 11) (.t 15)⟩] [0, 1, 5, 7, 8, 16])
    (.cond (.t 16)
      (.seq (.rg [⟨(some 17), none, .mv (.t 5)⟩,
          ⟨(some 4), none, .mv (.t 17)⟩] [4])
      .ret)
      .skip))))
  (.rg [⟨(some 18), none, .bin .add (.t 8) (.c (.int .i64 1))⟩,
      ⟨(some 8), none, .mv (.t 18)⟩] [0, 1, 7, 8]))))
def fn75L0 : Cd := .loop [0, 1, 7, 8] fn75B0
def fn75 : Vs.Fn := ⟨2,
  (.seq (.rg [⟨(some 4), none, .mv (.c (.int .i64 0))⟩] [0, 1])
  (.seq (.seq (.rg [⟨(some 6), none, .mv (.t 0)⟩,
      ⟨(some 7), none, .len false (.t 6)⟩,
      ⟨(some 8), none, .mv (.c (.int .i64 0))⟩] [0, 1, 7, 8])
  (.block 0
    fn75L0))
  (.seq (.rg [⟨(some 4), none, .mv (.c (.int .i64 (-1)))⟩] [4])
  .ret))),
  [.t 4]⟩

/- slices.rotateRight[spillway/api.Pair] -/
def an77 : Ann := [[2], []]
def fn77 : Vs.Fn := ⟨2,
  (.rg [⟨(some 4), none, .mv (.t 0)⟩,
      ⟨(some 5), none, .mv (.t 0)⟩,
      ⟨(some 6), none, .len false (.t 5)⟩,
      ⟨(some 7), none, .mv (.t 1)⟩,
      ⟨(some 8), none, .bin .sub (.t 6) (.t 7)⟩,
      ⟨(some 9), none, .call 2 (.f 86) [(.t 4), (.t 8)]⟩] []),
  []⟩

/- internal/stringslite.Index -/
def an78 : Ann := [[0, 1], [0, 1, 5], [0, 1, 5, 16], [4], [0, 1, 5, 24], [2], [4], [0, 1, 5, 31], [4], [0, 1, 5, 36], [2], [4], [0, 1, 5, 6], [0, 1, 5, 6, 7], [0, 1, 5, 6, 7, 8], [0, 1, 5, 6, 7, 8, 9], [0, 1, 5, 6, 7, 8, 9, 10], [0, 1, 5, 6, 7, 8, 9, 10], [0, 1, 5, 6, 7, 8, 9, 10, 59], [0, 1, 5, 6, 7, 8, 9, 10, 64], [2], [0, 1, 5, 6, 7, 8, 9, 10, 11], [0, 1, 5, 6, 7, 8, 9, 10, 11, 73], [4], [0, 1, 5, 6, 7, 8, 9, 10], [0, 1, 5, 6, 7, 8, 9, 10, 93], [4], [0, 1, 5, 6, 7, 8, 9, 10], [0, 1, 5, 6, 7, 8, 9, 10], [2], [0, 1, 5, 6, 7, 8, 9, 10, 107], [2], [8, 12], [8, 12, 114], [4], [4], [0, 1, 5, 6, 7, 8, 9, 10, 132], [2], [8, 13], [8, 13, 139], [4], [4], [4]]
def fn78B0 : Cd :=
  (.seq (.seq (.rg [⟨(some 57), none, .mv (.t 8)⟩,
      ⟨(some 58), none, .mv (.t 9)⟩,
      ⟨(some 59), none, .bin .lss (.t 57) (.t 58)⟩] [0, 1, 5, 6, 7, 8, 9, 10, 59])
  (.cond (.t 59)
    .skip
    (.exit 1)))
  (.block 2
    (.seq (.seq (.rg [⟨(some 60), none, .mv (.t 0)⟩,
        ⟨(some 61), none, .mv (.t 8)⟩,
        ⟨(some 62), none, .ist (.t 60) (.t 61)⟩,
        ⟨(some 63), none, .mv (.t 6)⟩,
        ⟨(some 64), none, .bin .neq (.t 62) (.t 63)⟩] [0, 1, 5, 6, 7, 8, 9, 10, 64])
    (.cond (.t 64)
      (.seq (.rg [⟨(some 65), none, .mv (.t 0)⟩,
          ⟨(some 66), none, .mv (.t 8)⟩,
          ⟨(some 67), none, .bin .add (.t 66) (.c (.int .i64 1))⟩,
          ⟨(some 68), none, .mv (.t 9)⟩,
          ⟨(some 69), none, .slst (.t 65) (some (.t 67)) (some (.t 68))⟩,
          ⟨(some 70), none, .mv (.t 6)⟩,
          ⟨(some 71), none, .call 2 (.f 81) [(.t 69), (.t 70)]⟩,
          ⟨(some 11), none, .mv (.t 71)⟩] [0, 1, 5, 6, 7, 8, 9, 10, 11])
      (.seq (.seq (.rg [⟨(some 72), none, .mv (.t 11)⟩,
          ⟨(some 73), none, .bin .lss (.t 72) (.c (.int .i64 0))⟩] [0, 1, 5, 6, 7, 8, 9, 10, 11, 73])
      (.cond (.t 73)
        (.seq (.rg [⟨(some 4), none, .mv (.c (.int .i64 (-1)))⟩] [4])
        .ret)
        .skip))
      (.rg [⟨(some 74), none, .mv (.t 8)⟩,
          ⟨(some 75), none, .mv (.t 11)⟩,
          ⟨(some 76), none, .bin .add (.t 75) (.c (.int .i64 1))⟩,
          ⟨(some 77), none, .bin .add (.t 74) (.t 76)⟩,
          ⟨(some 8), none, .mv (.t 77)⟩] [0, 1, 5, 6, 7, 8, 9, 10])))
      .skip))
    (.seq (.seq (.rg [⟨(some 78), none, .mv (.t 0)⟩,
        ⟨(some 79), none, .mv (.t 8)⟩,
        ⟨(some 80), none, .bin .add (.t 79) (.c (.int .i64 1))⟩,
        ⟨(some 81), none, .ist (.t 78) (.t 80)⟩,
        ⟨(some 82), none, .mv (.t 7)⟩,
        ⟨(some 83), none, .bin .eql (.t 81) (.t 82)⟩,
        ⟨(some 84), none, .mv (.t 83)⟩,
        ⟨(some 85), some (84, true), .mv (.t 0)⟩,
        ⟨(some 86), some (84, true), .mv (.t 8)⟩,
        ⟨(some 87), some (84, true), .mv (.t 8)⟩,
        ⟨(some 88), some (84, true), .mv (.t 5)⟩,
        ⟨(some 89), some (84, true), .bin .add (.t 87) (.t 88)⟩,
        ⟨(some 90), some (84, true), .slst (.t 85) (some (.t 86)) (some (.t 89))⟩,
        ⟨(some 91), some (84, true), .mv (.t 1)⟩,
        ⟨(some 92), some (84, true), .bin .eql (.t 90) (.t 91)⟩,
        ⟨(some 93), none, .pick (.t 84) (.t 92) (.c (.bool false))⟩] [0, 1, 5, 6, 7, 8, 9, 10, 93])
    (.cond (.t 93)
      (.seq (.rg [⟨(some 94), none, .mv (.t 8)⟩,
          ⟨(some 4), none, .mv (.t 94)⟩] [4])
      .ret)
      .skip))
    (.seq (.rg [⟨(some 95), none, .mv (.t 8)⟩,
        ⟨(some 96), none, .bin .add (.t 95) (.c (.int .i64 1))⟩,
        ⟨(some 8), none, .mv (.t 96)⟩] [0, 1, 5, 6, 7, 8, 9, 10])
    (.seq (.rg [⟨(some 97), none, .mv (.t 10)⟩,
        ⟨(some 98), none, .bin .add (.t 97) (.c (.int .i64 1))⟩,
        ⟨(some 10), none, .mv (.t 98)⟩] [0, 1, 5, 6, 7, 8, 9, 10])
    (.seq .bad
    (.cond (.t 107)
      (.seq .bad
      (.seq (.seq (.rg [⟨(some 113), none, .mv (.t 12)⟩,
          ⟨(some 114), none, .bin .geq (.t 113) (.c (.int .i64 0))⟩] [8, 12, 114])
      (.cond (.t 114)
        (.seq (.rg [⟨(some 115), none, .mv (.t 12)⟩,
            ⟨(some 116), none, .mv (.t 8)⟩,
            ⟨(some 117), none, .bin .add (.t 115) (.t 116)⟩,
            ⟨(some 4), none, .mv (.t 117)⟩] [4])
        .ret)
        .skip))
      (.seq (.rg [⟨(some 4), none, .mv (.c (.int .i64 (-1)))⟩] [4])
      .ret)))
      (.seq .bad
      (.cond (.t 132)
        (.seq (.rg [⟨(some 133), none, .mv (.t 0)⟩,
            ⟨(some 134), none, .mv (.t 8)⟩,
            ⟨(some 135), none, .slst (.t 133) (some (.t 134)) none⟩,
            ⟨(some 136), none, .mv (.t 1)⟩,
            ⟨(some 137), none, .call 2 (.f 89) [(.t 135), (.t 136)]⟩,
            ⟨(some 13), none, .mv (.t 137)⟩] [8, 13])
        (.seq (.seq (.rg [⟨(some 138), none, .mv (.t 13)⟩,
            ⟨(some 139), none, .bin .lss (.t 138) (.c (.int .i64 0))⟩] [8, 13, 139])
        (.cond (.t 139)
          (.seq (.rg [⟨(some 4), none, .mv (.c (.int .i64 (-1)))⟩] [4])
          .ret)
          .skip))
        (.seq (.rg [⟨(some 140), none, .mv (.t 8)⟩,
            ⟨(some 141), none, .mv (.t 13)⟩,
            ⟨(some 142), none, .bin .add (.t 140) (.t 141)⟩,
            ⟨(some 4), none, .mv (.t 142)⟩] [4])
        .ret)))
        .skip))))))))))
def fn78L0 : Cd := .loop [0, 1, 5, 6, 7, 8, 9, 10] fn78B0
def fn78 : Vs.Fn := ⟨2,
  (.seq (.rg [⟨(some 4), none, .mv (.c (.int .i64 0))⟩] [0, 1])
  (.seq (.rg [⟨(some 14), none, .mv (.t 1)⟩,
      ⟨(some 15), none, .len true (.t 14)⟩,
      ⟨(some 5), none, .mv (.t 15)⟩] [0, 1, 5])
  (.seq (.block 0
    (.seq (.rg [⟨(some 17), none, .mv (.t 5)⟩,
        ⟨(some 18), none, .bin .eql (.t 17) (.c (.int .i64 0))⟩,
        ⟨(some 19), none, .mv (.t 18)⟩,
        ⟨(some 20), some (19, false), .mv (.t 1)⟩,
        ⟨(some 21), some (19, false), .mv (.t 0)⟩,
        ⟨(some 22), some (19, false), .bin .eql (.t 20) (.t 21)⟩,
        ⟨(some 23), none, .pick (.t 19) (.c (.bool true)) (.t 22)⟩,
        ⟨(some 16), none, .mv (.t 23)⟩] [0, 1, 5, 16])
    (.cond (.t 16)
      (.seq (.rg [⟨(some 4), none, .mv (.c (.int .i64 0))⟩] [4])
      .ret)
      (.seq (.rg [⟨(some 25), none, .mv (.t 5)⟩,
          ⟨(some 26), none, .bin .eql (.t 25) (.c (.int .i64 1))⟩,
          ⟨(some 24), none, .mv (.t 26)⟩] [0, 1, 5, 24])
      (.cond (.t 24)
        (.seq (.rg [⟨(some 27), none, .mv (.t 0)⟩,
            ⟨(some 28), none, .mv (.t 1)⟩,
            ⟨(some 29), none, .ist (.t 28) (.c (.int .i64 0))⟩,
            ⟨(some 30), none, .call 2 (.f 81) [(.t 27), (.t 29)]⟩,
            ⟨(some 4), none, .mv (.t 30)⟩] [4])
        .ret)
        (.seq (.rg [⟨(some 32), none, .mv (.t 5)⟩,
            ⟨(some 33), none, .mv (.t 0)⟩,
            ⟨(some 34), none, .len true (.t 33)⟩,
            ⟨(some 35), none, .bin .geq (.t 32) (.t 34)⟩,
            ⟨(some 31), none, .mv (.t 35)⟩] [0, 1, 5, 31])
        (.cond (.t 31)
          (.seq (.rg [⟨(some 4), none, .mv (.c (.int .i64 (-1)))⟩] [4])
          .ret)
          (.seq .bad
          (.cond (.t 36)
            (.seq .bad
            .ret)
            .skip)))))))))
  (.seq (.rg [⟨(some 48), none, .mv (.t 1)⟩,
      ⟨(some 49), none, .ist (.t 48) (.c (.int .i64 0))⟩,
      ⟨(some 6), none, .mv (.t 49)⟩] [0, 1, 5, 6])
  (.seq (.rg [⟨(some 50), none, .mv (.t 1)⟩,
      ⟨(some 51), none, .ist (.t 50) (.c (.int .i64 1))⟩,
      ⟨(some 7), none, .mv (.t 51)⟩] [0, 1, 5, 6, 7])
  (.seq (.rg [⟨(some 8), none, .mv (.c (.int .i64 0))⟩] [0, 1, 5, 6, 7, 8])
  (.seq (.rg [⟨(some 52), none, .mv (.t 0)⟩,
      ⟨(some 53), none, .len true (.t 52)⟩,
      ⟨(some 54), none, .mv (.t 5)⟩,
      ⟨(some 55), none, .bin .sub (.t 53) (.t 54)⟩,
      ⟨(some 56), none, .bin .add (.t 55) (.c (.int .i64 1))⟩,
      ⟨(some 9), none, .mv (.t 56)⟩] [0, 1, 5, 6, 7, 8, 9])
  (.seq (.rg [⟨(some 10), none, .mv (.c (.int .i64 0))⟩] [0, 1, 5, 6, 7, 8, 9, 10])
  (.seq (.block 1
    fn78L0)
  (.seq (.rg [⟨(some 4), none, .mv (.c (.int .i64 (-1)))⟩] [4])
  .ret)))))))))),
  [.t 4]⟩

/- (*strings.Builder).copyCheck -/
def an79 : Ann := [[0, 6], [2], [], [19]]
def fn79 : Vs.Fn := ⟨1,
  (.seq (.rg [⟨(some 2), none, .mv (.t 0)⟩,
      ⟨(some 3), none, .nilck (.t 2)⟩,
      ⟨(some 4), none, .fad 0 (.t 3)⟩,
      ⟨(some 5), none, .load false 1 (.t 4) false⟩,
      ⟨(some 6), none, .eqn 0 false (.t 5)⟩] [0, 6])
  (.cond (.t 6)
    (.rg [⟨(some 7), none, .mv (.t 0)⟩,
        ⟨(some 8), none, .mv (.t 0)⟩,
        ⟨(some 9), none, .tou (.t 8)⟩,
        ⟨(some 10), none, .pr .noe [(.t 9)]⟩,
        ⟨(some 11), none, .fru 78 2 (.t 10)⟩,
        ⟨(some 12), none, .nilck (.t 7)⟩,
        ⟨(some 13), none, .fad 0 (.t 12)⟩,
        ⟨none, none, .store 1 (.t 13) (.t 11)⟩] [])
    (.seq (.rg [⟨(some 14), none, .mv (.t 0)⟩,
        ⟨(some 15), none, .nilck (.t 14)⟩,
        ⟨(some 16), none, .fad 0 (.t 15)⟩,
        ⟨(some 17), none, .load false 1 (.t 16) false⟩,
        ⟨(some 18), none, .mv (.t 0)⟩,
        ⟨(some 19), none, .nep (.t 17) (.t 18)⟩] [19])
    (.cond (.t 19)
      .bad
      .skip)))),
  []⟩

/- internal/stringslite.HasPrefix -/
def an80 : Ann := [[0, 1], [4]]
def fn80 : Vs.Fn := ⟨2,
  (.seq (.rg [⟨(some 4), none, .mv (.c (.bool false))⟩] [0, 1])
  (.seq (.rg [⟨(some 5), none, .mv (.t 0)⟩,
      ⟨(some 6), none, .len true (.t 5)⟩,
      ⟨(some 7), none, .mv (.t 1)⟩,
      ⟨(some 8), none, .len true (.t 7)⟩,
      ⟨(some 9), none, .bin .geq (.t 6) (.t 8)⟩,
      ⟨(some 10), none, .mv (.t 9)⟩,
      ⟨(some 11), some (10, true), .mv (.t 0)⟩,
      ⟨(some 12), some (10, true), .mv (.t 1)⟩,
      ⟨(some 13), some (10, true), .len true (.t 12)⟩,
      ⟨(some 14), some (10, true), .slst (.t 11) none (some (.t 13))⟩,
      ⟨(some 15), some (10, true), .mv (.t 1)⟩,
      ⟨(some 16), some (10, true), .bin .eql (.t 14) (.t 15)⟩,
      ⟨(some 17), none, .pick (.t 10) (.t 16) (.c (.bool false))⟩,
      ⟨(some 4), none, .mv (.t 17)⟩] [4])
  .ret)),
  [.t 4]⟩

/- internal/stringslite.IndexByte -/
def an81 : Ann := [[0, 1], [2], [4]]
def fn81 : Vs.Fn := ⟨2,
  (.seq (.rg [⟨(some 4), none, .mv (.c (.int .i64 0))⟩] [0, 1])
  (.seq (.rg [⟨(some 5), none, .mv (.t 0)⟩,
      ⟨(some 6), none, .mv (.t 1)⟩,
      ⟨(some 7), none, .pr .ixb [(.t 5), (.t 6)]⟩,
      ⟨(some 4), none, .mv (.t 7)⟩] [4])
  .ret)),
  [.t 4]⟩

/- (*strings.Builder).grow -/
def an82 : Ann := [[2], [0, 4], [0, 4], []]
def fn82 : Vs.Fn := ⟨2,
  (.seq .bad
  (.seq (.rg [⟨(some 20), none, .mv (.t 4)⟩,
      ⟨(some 21), none, .mv (.t 0)⟩,
      ⟨(some 22), none, .nilck (.t 21)⟩,
      ⟨(some 23), none, .fad 1 (.t 22)⟩,
      ⟨(some 24), none, .load false 1 (.t 23) false⟩,
      ⟨(some 25), none, .copy 1 (.t 20) (.t 24)⟩] [0, 4])
  (.rg [⟨(some 26), none, .mv (.t 0)⟩,
      ⟨(some 27), none, .mv (.t 4)⟩,
      ⟨(some 28), none, .nilck (.t 26)⟩,
      ⟨(some 29), none, .fad 1 (.t 28)⟩,
      ⟨none, none, .store 1 (.t 29) (.t 27)⟩] []))),
  []⟩

/- slices.insertionSortCmpFunc[spillway/api.Pair] -/
def an84 : Ann := [[0, 1, 2, 3, 8], [0, 1, 2, 3, 8], [0, 1, 2, 3, 8, 14], [0, 1, 2, 3, 8, 9], [0, 1, 2, 3, 8, 9], [2], [0, 1, 2, 3, 8, 9, 34], [0, 1, 2, 3, 8, 9], [0, 1, 2, 3, 8, 9], [0, 1, 2, 3, 8]]
def fn84B0 : Cd :=
  (.seq (.seq (.rg [⟨(some 18), none, .mv (.t 9)⟩,
      ⟨(some 19), none, .mv (.t 1)⟩,
      ⟨(some 20), none, .bin .gtr (.t 18) (.t 19)⟩,
      ⟨(some 21), none, .mv (.t 20)⟩,
      ⟨(some 22), some (21, true), .mv (.t 3)⟩,
      ⟨(some 23), some (21, true), .mv (.t 0)⟩,
      ⟨(some 24), some (21, true), .mv (.t 9)⟩,
      ⟨(some 25), some (21, true), .iad 2 (.t 23) (.t 24)⟩,
      ⟨(some 26), some (21, true), .load true 2 (.t 25) false⟩,
      ⟨(some 27), some (21, true), .mv (.t 0)⟩,
      ⟨(some 28), some (21, true), .mv (.t 9)⟩,
      ⟨(some 29), some (21, true), .bin .sub (.t 28) (.c (.int .i64 1))⟩,
      ⟨(some 30), some (21, true), .iad 2 (.t 27) (.t 29)⟩,
      ⟨(some 31), some (21, true), .load true 2 (.t 30) false⟩,
      ⟨(some 32), some (21, true), .call 2 (.t 22) [(.t 26), (.t 31)]⟩,
      ⟨(some 33), some (21, true), .bin .lss (.t 32) (.c (.int .i64 0))⟩,
      ⟨(some 34), none, .pick (.t 21) (.t 33) (.c (.bool false))⟩] [0, 1, 2, 3, 8, 9, 34])
  (.cond (.t 34)
    .skip
    (.exit 2)))
  (.seq (.block 3
    (.rg [⟨(some 37), none, .mv (.t 0)⟩,
        ⟨(some 38), none, .mv (.t 9)⟩,
        ⟨(some 39), none, .mv (.t 0)⟩,
        ⟨(some 40), none, .mv (.t 9)⟩,
        ⟨(some 41), none, .bin .sub (.t 40) (.c (.int .i64 1))⟩,
        ⟨(some 42), none, .mv (.t 0)⟩,
        ⟨(some 43), none, .mv (.t 9)⟩,
        ⟨(some 44), none, .bin .sub (.t 43) (.c (.int .i64 1))⟩,
        ⟨(some 45), none, .iad 2 (.t 42) (.t 44)⟩,
        ⟨(some 46), none, .load true 2 (.t 45) false⟩,
        ⟨(some 47), none, .mv (.t 0)⟩,
        ⟨(some 48), none, .mv (.t 9)⟩,
        ⟨(some 49), none, .iad 2 (.t 47) (.t 48)⟩,
        ⟨(some 50), none, .load true 2 (.t 49) false⟩,
        ⟨(some 51), none, .iad 2 (.t 37) (.t 38)⟩,
        ⟨none, none, .store 2 (.t 51) (.t 46)⟩,
        ⟨(some 52), none, .iad 2 (.t 39) (.t 41)⟩,
        ⟨none, none, .store 2 (.t 52) (.t 50)⟩] [0, 1, 2, 3, 8, 9]))
  (.rg [⟨(some 35), none, .mv (.t 9)⟩,
      ⟨(some 36), none, .bin .sub (.t 35) (.c (.int .i64 1))⟩,
      ⟨(some 9), none, .mv (.t 36)⟩] [0, 1, 2, 3, 8, 9])))
def fn84L0 : Cd := .loop [0, 1, 2, 3, 8, 9] fn84B0
def fn84B1 : Cd :=
  (.seq (.seq (.rg [⟨(some 12), none, .mv (.t 8)⟩,
      ⟨(some 13), none, .mv (.t 2)⟩,
      ⟨(some 14), none, .bin .lss (.t 12) (.t 13)⟩] [0, 1, 2, 3, 8, 14])
  (.cond (.t 14)
    .skip
    (.exit 0)))
  (.seq (.block 1
    (.seq (.rg [⟨(some 17), none, .mv (.t 8)⟩,
        ⟨(some 9), none, .mv (.t 17)⟩] [0, 1, 2, 3, 8, 9])
    (.block 2
      fn84L0)))
  (.rg [⟨(some 15), none, .mv (.t 8)⟩,
      ⟨(some 16), none, .bin .add (.t 15) (.c (.int .i64 1))⟩,
      ⟨(some 8), none, .mv (.t 16)⟩] [0, 1, 2, 3, 8])))
def fn84L1 : Cd := .loop [0, 1, 2, 3, 8] fn84B1
def fn84 : Vs.Fn := ⟨4,
  (.seq (.rg [⟨(some 10), none, .mv (.t 1)⟩,
      ⟨(some 11), none, .bin .add (.t 10) (.c (.int .i64 1))⟩,
      ⟨(some 8), none, .mv (.t 11)⟩] [0, 1, 2, 3, 8])
  (.block 0
    fn84L1)),
  []⟩

/- slices.symMergeCmpFunc[spillway/api.Pair] -/
def an85 : Ann := [[0, 1, 2, 3, 4, 28], [0, 1, 3, 4, 10], [0, 1, 4, 10, 11], [0, 1, 4, 10, 11], [0, 1, 4, 10, 11, 33], [0, 1, 4, 10, 11, 12], [2], [0, 1, 4, 10, 11, 12, 50], [0, 1, 4, 10, 11], [0, 1, 4, 10, 11], [0, 10, 13], [0, 10, 13], [0, 10, 13, 58], [0, 10, 13], [0, 10, 13], [0, 1, 2, 3, 4, 80], [0, 2, 4, 14], [0, 2, 4, 14, 15], [0, 2, 4, 14, 15], [0, 2, 4, 14, 15, 85], [0, 2, 4, 14, 15, 16], [2], [0, 2, 4, 14, 15, 16, 103], [0, 2, 4, 14, 15], [0, 2, 4, 14, 15], [0, 14, 17], [0, 14, 17], [0, 14, 17, 110], [0, 14, 17], [0, 14, 17], [0, 1, 2, 3, 4, 18], [0, 1, 2, 3, 4, 18, 19], [0, 1, 2, 3, 4, 18, 19], [0, 1, 2, 3, 4, 18, 19, 140], [0, 1, 2, 3, 4, 18, 19, 20], [0, 1, 2, 3, 4, 18, 19, 20, 21], [0, 1, 2, 3, 4, 18, 19, 20], [0, 1, 2, 3, 4, 18, 19, 20, 21], [0, 1, 2, 3, 4, 18, 19, 20, 21, 22], [0, 1, 2, 3, 4, 18, 19, 20, 21, 22], [0, 1, 2, 3, 4, 18, 19, 20, 21, 22, 151], [0, 1, 2, 3, 4, 18, 19, 20, 21, 22, 23], [2], [0, 1, 2, 3, 4, 18, 19, 20, 21, 22, 23, 171], [0, 1, 2, 3, 4, 18, 19, 20, 21, 22], [0, 1, 2, 3, 4, 18, 19, 20, 21, 22], [0, 1, 2, 3, 4, 18, 20, 24], [0, 1, 2, 3, 4, 18, 20, 24, 185], [0], [0, 1, 3, 4, 18, 20, 24], [0, 1, 3, 4, 18, 20, 24, 199], [0], [0, 3, 4, 18, 24], [0, 3, 4, 18, 24, 213], [0], []]
def fn85B0 : Cd :=
  (.seq (.seq (.rg [⟨(some 31), none, .mv (.t 10)⟩,
      ⟨(some 32), none, .mv (.t 11)⟩,
      ⟨(some 33), none, .bin .lss (.t 31) (.t 32)⟩] [0, 1, 4, 10, 11, 33])
  (.cond (.t 33)
    .skip
    (.exit 0)))
  (.block 1
    (.seq (.rg [⟨(some 34), none, .mv (.t 10)⟩,
        ⟨(some 35), none, .mv (.t 11)⟩,
        ⟨(some 36), none, .bin .add (.t 34) (.t 35)⟩,
        ⟨(some 37), none, .cvi .u64 (.t 36)⟩,
        ⟨(some 38), none, .bin .shr (.t 37) (.c (.int .u64 1))⟩,
        ⟨(some 39), none, .cvi .i64 (.t 38)⟩,
        ⟨(some 12), none, .mv (.t 39)⟩] [0, 1, 4, 10, 11, 12])
    (.seq (.rg [⟨(some 40), none, .mv (.t 4)⟩,
        ⟨(some 41), none, .mv (.t 0)⟩,
        ⟨(some 42), none, .mv (.t 12)⟩,
        ⟨(some 43), none, .iad 2 (.t 41) (.t 42)⟩,
        ⟨(some 44), none, .load true 2 (.t 43) false⟩,
        ⟨(some 45), none, .mv (.t 0)⟩,
        ⟨(some 46), none, .mv (.t 1)⟩,
        ⟨(some 47), none, .iad 2 (.t 45) (.t 46)⟩,
        ⟨(some 48), none, .load true 2 (.t 47) false⟩,
        ⟨(some 49), none, .call 2 (.t 40) [(.t 44), (.t 48)]⟩,
        ⟨(some 50), none, .bin .lss (.t 49) (.c (.int .i64 0))⟩] [0, 1, 4, 10, 11, 12, 50])
    (.cond (.t 50)
      (.rg [⟨(some 51), none, .mv (.t 12)⟩,
          ⟨(some 52), none, .bin .add (.t 51) (.c (.int .i64 1))⟩,
          ⟨(some 10), none, .mv (.t 52)⟩] [0, 1, 4, 10, 11])
      (.rg [⟨(some 53), none, .mv (.t 12)⟩,
          ⟨(some 11), none, .mv (.t 53)⟩] [0, 1, 4, 10, 11]))))))
def fn85L0 : Cd := .loop [0, 1, 4, 10, 11] fn85B0
def fn85B1 : Cd :=
  (.seq (.seq (.rg [⟨(some 55), none, .mv (.t 13)⟩,
      ⟨(some 56), none, .mv (.t 10)⟩,
      ⟨(some 57), none, .bin .sub (.t 56) (.c (.int .i64 1))⟩,
      ⟨(some 58), none, .bin .lss (.t 55) (.t 57)⟩] [0, 10, 13, 58])
  (.cond (.t 58)
    .skip
    (.exit 2)))
  (.seq (.block 3
    (.rg [⟨(some 61), none, .mv (.t 0)⟩,
        ⟨(some 62), none, .mv (.t 13)⟩,
        ⟨(some 63), none, .mv (.t 0)⟩,
        ⟨(some 64), none, .mv (.t 13)⟩,
        ⟨(some 65), none, .bin .add (.t 64) (.c (.int .i64 1))⟩,
        ⟨(some 66), none, .mv (.t 0)⟩,
        ⟨(some 67), none, .mv (.t 13)⟩,
        ⟨(some 68), none, .bin .add (.t 67) (.c (.int .i64 1))⟩,
        ⟨(some 69), none, .iad 2 (.t 66) (.t 68)⟩,
        ⟨(some 70), none, .load true 2 (.t 69) false⟩,
        ⟨(some 71), none, .mv (.t 0)⟩,
        ⟨(some 72), none, .mv (.t 13)⟩,
        ⟨(some 73), none, .iad 2 (.t 71) (.t 72)⟩,
        ⟨(some 74), none, .load true 2 (.t 73) false⟩,
        ⟨(some 75), none, .iad 2 (.t 61) (.t 62)⟩,
        ⟨none, none, .store 2 (.t 75) (.t 70)⟩,
        ⟨(some 76), none, .iad 2 (.t 63) (.t 65)⟩,
        ⟨none, none, .store 2 (.t 76) (.t 74)⟩] [0, 10, 13]))
  (.rg [⟨(some 59), none, .mv (.t 13)⟩,
      ⟨(some 60), none, .bin .add (.t 59) (.c (.int .i64 1))⟩,
      ⟨(some 13), none, .mv (.t 60)⟩] [0, 10, 13])))
def fn85L1 : Cd := .loop [0, 10, 13] fn85B1
def fn85B2 : Cd :=
  (.seq (.seq (.rg [⟨(some 83), none, .mv (.t 14)⟩,
      ⟨(some 84), none, .mv (.t 15)⟩,
      ⟨(some 85), none, .bin .lss (.t 83) (.t 84)⟩] [0, 2, 4, 14, 15, 85])
  (.cond (.t 85)
    .skip
    (.exit 4)))
  (.block 5
    (.seq (.rg [⟨(some 86), none, .mv (.t 14)⟩,
        ⟨(some 87), none, .mv (.t 15)⟩,
        ⟨(some 88), none, .bin .add (.t 86) (.t 87)⟩,
        ⟨(some 89), none, .cvi .u64 (.t 88)⟩,
        ⟨(some 90), none, .bin .shr (.t 89) (.c (.int .u64 1))⟩,
        ⟨(some 91), none, .cvi .i64 (.t 90)⟩,
        ⟨(some 16), none, .mv (.t 91)⟩] [0, 2, 4, 14, 15, 16])
    (.seq (.rg [⟨(some 92), none, .mv (.t 4)⟩,
        ⟨(some 93), none, .mv (.t 0)⟩,
        ⟨(some 94), none, .mv (.t 2)⟩,
        ⟨(some 95), none, .iad 2 (.t 93) (.t 94)⟩,
        ⟨(some 96), none, .load true 2 (.t 95) false⟩,
        ⟨(some 97), none, .mv (.t 0)⟩,
        ⟨(some 98), none, .mv (.t 16)⟩,
        ⟨(some 99), none, .iad 2 (.t 97) (.t 98)⟩,
        ⟨(some 100), none, .load true 2 (.t 99) false⟩,
        ⟨(some 101), none, .call 2 (.t 92) [(.t 96), (.t 100)]⟩,
        ⟨(some 102), none, .bin .lss (.t 101) (.c (.int .i64 0))⟩,
        ⟨(some 103), none, .un .not (.t 102)⟩] [0, 2, 4, 14, 15, 16, 103])
    (.cond (.t 103)
      (.rg [⟨(some 104), none, .mv (.t 16)⟩,
          ⟨(some 105), none, .bin .add (.t 104) (.c (.int .i64 1))⟩,
          ⟨(some 14), none, .mv (.t 105)⟩] [0, 2, 4, 14, 15])
      (.rg [⟨(some 106), none, .mv (.t 16)⟩,
          ⟨(some 15), none, .mv (.t 106)⟩] [0, 2, 4, 14, 15]))))))
def fn85L2 : Cd := .loop [0, 2, 4, 14, 15] fn85B2
def fn85B3 : Cd :=
  (.seq (.seq (.rg [⟨(some 108), none, .mv (.t 17)⟩,
      ⟨(some 109), none, .mv (.t 14)⟩,
      ⟨(some 110), none, .bin .gtr (.t 108) (.t 109)⟩] [0, 14, 17, 110])
  (.cond (.t 110)
    .skip
    (.exit 6)))
  (.seq (.block 7
    (.rg [⟨(some 113), none, .mv (.t 0)⟩,
        ⟨(some 114), none, .mv (.t 17)⟩,
        ⟨(some 115), none, .mv (.t 0)⟩,
        ⟨(some 116), none, .mv (.t 17)⟩,
        ⟨(some 117), none, .bin .sub (.t 116) (.c (.int .i64 1))⟩,
        ⟨(some 118), none, .mv (.t 0)⟩,
        ⟨(some 119), none, .mv (.t 17)⟩,
        ⟨(some 120), none, .bin .sub (.t 119) (.c (.int .i64 1))⟩,
        ⟨(some 121), none, .iad 2 (.t 118) (.t 120)⟩,
        ⟨(some 122), none, .load true 2 (.t 121) false⟩,
        ⟨(some 123), none, .mv (.t 0)⟩,
        ⟨(some 124), none, .mv (.t 17)⟩,
        ⟨(some 125), none, .iad 2 (.t 123) (.t 124)⟩,
        ⟨(some 126), none, .load true 2 (.t 125) false⟩,
        ⟨(some 127), none, .iad 2 (.t 113) (.t 114)⟩,
        ⟨none, none, .store 2 (.t 127) (.t 122)⟩,
        ⟨(some 128), none, .iad 2 (.t 115) (.t 117)⟩,
        ⟨none, none, .store 2 (.t 128) (.t 126)⟩] [0, 14, 17]))
  (.rg [⟨(some 111), none, .mv (.t 17)⟩,
      ⟨(some 112), none, .bin .sub (.t 111) (.c (.int .i64 1))⟩,
      ⟨(some 17), none, .mv (.t 112)⟩] [0, 14, 17])))
def fn85L3 : Cd := .loop [0, 14, 17] fn85B3
def fn85B4 : Cd :=
  (.seq (.seq (.rg [⟨(some 149), none, .mv (.t 20)⟩,
      ⟨(some 150), none, .mv (.t 21)⟩,
      ⟨(some 151), none, .bin .lss (.t 149) (.t 150)⟩] [0, 1, 2, 3, 4, 18, 19, 20, 21, 22, 151])
  (.cond (.t 151)
    .skip
    (.exit 8)))
  (.block 9
    (.seq (.rg [⟨(some 152), none, .mv (.t 20)⟩,
        ⟨(some 153), none, .mv (.t 21)⟩,
        ⟨(some 154), none, .bin .add (.t 152) (.t 153)⟩,
        ⟨(some 155), none, .cvi .u64 (.t 154)⟩,
        ⟨(some 156), none, .bin .shr (.t 155) (.c (.int .u64 1))⟩,
        ⟨(some 157), none, .cvi .i64 (.t 156)⟩,
        ⟨(some 23), none, .mv (.t 157)⟩] [0, 1, 2, 3, 4, 18, 19, 20, 21, 22, 23])
    (.seq (.rg [⟨(some 158), none, .mv (.t 4)⟩,
        ⟨(some 159), none, .mv (.t 0)⟩,
        ⟨(some 160), none, .mv (.t 22)⟩,
        ⟨(some 161), none, .mv (.t 23)⟩,
        ⟨(some 162), none, .bin .sub (.t 160) (.t 161)⟩,
        ⟨(some 163), none, .iad 2 (.t 159) (.t 162)⟩,
        ⟨(some 164), none, .load true 2 (.t 163) false⟩,
        ⟨(some 165), none, .mv (.t 0)⟩,
        ⟨(some 166), none, .mv (.t 23)⟩,
        ⟨(some 167), none, .iad 2 (.t 165) (.t 166)⟩,
        ⟨(some 168), none, .load true 2 (.t 167) false⟩,
        ⟨(some 169), none, .call 2 (.t 158) [(.t 164), (.t 168)]⟩,
        ⟨(some 170), none, .bin .lss (.t 169) (.c (.int .i64 0))⟩,
        ⟨(some 171), none, .un .not (.t 170)⟩] [0, 1, 2, 3, 4, 18, 19, 20, 21, 22, 23, 171])
    (.cond (.t 171)
      (.rg [⟨(some 172), none, .mv (.t 23)⟩,
          ⟨(some 173), none, .bin .add (.t 172) (.c (.int .i64 1))⟩,
          ⟨(some 20), none, .mv (.t 173)⟩] [0, 1, 2, 3, 4, 18, 19, 20, 21, 22])
      (.rg [⟨(some 174), none, .mv (.t 23)⟩,
          ⟨(some 21), none, .mv (.t 174)⟩] [0, 1, 2, 3, 4, 18, 19, 20, 21, 22]))))))
def fn85L4 : Cd := .loop [0, 1, 2, 3, 4, 18, 19, 20, 21, 22] fn85B4
def fn85 : Vs.Fn := ⟨5,
  (.seq (.seq (.rg [⟨(some 25), none, .mv (.t 2)⟩,
      ⟨(some 26), none, .mv (.t 1)⟩,
      ⟨(some 27), none, .bin .sub (.t 25) (.t 26)⟩,
      ⟨(some 28), none, .bin .eql (.t 27) (.c (.int .i64 1))⟩] [0, 1, 2, 3, 4, 28])
  (.cond (.t 28)
    (.seq (.rg [⟨(some 29), none, .mv (.t 2)⟩,
        ⟨(some 10), none, .mv (.t 29)⟩] [0, 1, 3, 4, 10])
    (.seq (.rg [⟨(some 30), none, .mv (.t 3)⟩,
        ⟨(some 11), none, .mv (.t 30)⟩] [0, 1, 4, 10, 11])
    (.seq (.block 0
      fn85L0)
    (.seq (.seq (.rg [⟨(some 54), none, .mv (.t 1)⟩,
        ⟨(some 13), none, .mv (.t 54)⟩] [0, 10, 13])
    (.block 2
      fn85L1))
    .ret))))
    .skip))
  (.seq (.seq (.rg [⟨(some 77), none, .mv (.t 3)⟩,
      ⟨(some 78), none, .mv (.t 2)⟩,
      ⟨(some 79), none, .bin .sub (.t 77) (.t 78)⟩,
      ⟨(some 80), none, .bin .eql (.t 79) (.c (.int .i64 1))⟩] [0, 1, 2, 3, 4, 80])
  (.cond (.t 80)
    (.seq (.rg [⟨(some 81), none, .mv (.t 1)⟩,
        ⟨(some 14), none, .mv (.t 81)⟩] [0, 2, 4, 14])
    (.seq (.rg [⟨(some 82), none, .mv (.t 2)⟩,
        ⟨(some 15), none, .mv (.t 82)⟩] [0, 2, 4, 14, 15])
    (.seq (.block 4
      fn85L2)
    (.seq (.seq (.rg [⟨(some 107), none, .mv (.t 2)⟩,
        ⟨(some 17), none, .mv (.t 107)⟩] [0, 14, 17])
    (.block 6
      fn85L3))
    .ret))))
    .skip))
  (.seq (.rg [⟨(some 129), none, .mv (.t 1)⟩,
      ⟨(some 130), none, .mv (.t 3)⟩,
      ⟨(some 131), none, .bin .add (.t 129) (.t 130)⟩,
      ⟨(some 132), none, .cvi .u64 (.t 131)⟩,
      ⟨(some 133), none, .bin .shr (.t 132) (.c (.int .u64 1))⟩,
      ⟨(some 134), none, .cvi .i64 (.t 133)⟩,
      ⟨(some 18), none, .mv (.t 134)⟩] [0, 1, 2, 3, 4, 18])
  (.seq (.rg [⟨(some 135), none, .mv (.t 18)⟩,
      ⟨(some 136), none, .mv (.t 2)⟩,
      ⟨(some 137), none, .bin .add (.t 135) (.t 136)⟩,
      ⟨(some 19), none, .mv (.t 137)⟩] [0, 1, 2, 3, 4, 18, 19])
  (.seq (.rg [⟨(some 20), none, .mv (.c (.int .i64 0))⟩,
      ⟨(some 21), none, .mv (.c (.int .i64 0))⟩] [0, 1, 2, 3, 4, 18, 19])
  (.seq (.seq (.rg [⟨(some 138), none, .mv (.t 2)⟩,
      ⟨(some 139), none, .mv (.t 18)⟩,
      ⟨(some 140), none, .bin .gtr (.t 138) (.t 139)⟩] [0, 1, 2, 3, 4, 18, 19, 140])
  (.cond (.t 140)
    (.seq (.rg [⟨(some 141), none, .mv (.t 19)⟩,
        ⟨(some 142), none, .mv (.t 3)⟩,
        ⟨(some 143), none, .bin .sub (.t 141) (.t 142)⟩,
        ⟨(some 20), none, .mv (.t 143)⟩] [0, 1, 2, 3, 4, 18, 19, 20])
    (.rg [⟨(some 144), none, .mv (.t 18)⟩,
        ⟨(some 21), none, .mv (.t 144)⟩] [0, 1, 2, 3, 4, 18, 19, 20, 21]))
    (.seq (.rg [⟨(some 145), none, .mv (.t 1)⟩,
        ⟨(some 20), none, .mv (.t 145)⟩] [0, 1, 2, 3, 4, 18, 19, 20])
    (.rg [⟨(some 146), none, .mv (.t 2)⟩,
        ⟨(some 21), none, .mv (.t 146)⟩] [0, 1, 2, 3, 4, 18, 19, 20, 21]))))
  (.seq (.rg [⟨(some 147), none, .mv (.t 19)⟩,
      ⟨(some 148), none, .bin .sub (.t 147) (.c (.int .i64 1))⟩,
      ⟨(some 22), none, .mv (.t 148)⟩] [0, 1, 2, 3, 4, 18, 19, 20, 21, 22])
  (.seq (.block 8
    fn85L4)
  (.seq (.rg [⟨(some 175), none, .mv (.t 19)⟩,
      ⟨(some 176), none, .mv (.t 20)⟩,
      ⟨(some 177), none, .bin .sub (.t 175) (.t 176)⟩,
      ⟨(some 24), none, .mv (.t 177)⟩] [0, 1, 2, 3, 4, 18, 20, 24])
  (.seq (.seq (.rg [⟨(some 178), none, .mv (.t 20)⟩,
      ⟨(some 179), none, .mv (.t 2)⟩,
      ⟨(some 180), none, .bin .lss (.t 178) (.t 179)⟩,
      ⟨(some 181), none, .mv (.t 180)⟩,
      ⟨(some 182), some (181, true), .mv (.t 2)⟩,
      ⟨(some 183), some (181, true), .mv (.t 24)⟩,
      ⟨(some 184), some (181, true), .bin .lss (.t 182) (.t 183)⟩,
      ⟨(some 185), none, .pick (.t 181) (.t 184) (.c (.bool false))⟩] [0, 1, 2, 3, 4, 18, 20, 24, 185])
  (.cond (.t 185)
    (.rg [⟨(some 186), none, .mv (.t 0)⟩,
        ⟨(some 187), none, .mv (.t 20)⟩,
        ⟨(some 188), none, .mv (.t 2)⟩,
        ⟨(some 189), none, .mv (.t 24)⟩,
        ⟨(some 190), none, .mv (.t 4)⟩,
        ⟨(some 191), none, .call 0 (.f 93) [(.t 186), (.t 187), (.t 188), (.t 189), (.t 190)]⟩] [0, 1, 3, 4, 18, 20, 24])
    .skip))
  (.seq (.seq (.rg [⟨(some 192), none, .mv (.t 1)⟩,
      ⟨(some 193), none, .mv (.t 20)⟩,
      ⟨(some 194), none, .bin .lss (.t 192) (.t 193)⟩,
      ⟨(some 195), none, .mv (.t 194)⟩,
      ⟨(some 196), some (195, true), .mv (.t 20)⟩,
      ⟨(some 197), some (195, true), .mv (.t 18)⟩,
      ⟨(some 198), some (195, true), .bin .lss (.t 196) (.t 197)⟩,
      ⟨(some 199), none, .pick (.t 195) (.t 198) (.c (.bool false))⟩] [0, 1, 3, 4, 18, 20, 24, 199])
  (.cond (.t 199)
    (.rg [⟨(some 200), none, .mv (.t 0)⟩,
        ⟨(some 201), none, .mv (.t 1)⟩,
        ⟨(some 202), none, .mv (.t 20)⟩,
        ⟨(some 203), none, .mv (.t 18)⟩,
        ⟨(some 204), none, .mv (.t 4)⟩,
        ⟨(some 205), none, .call 0 (.f 85) [(.t 200), (.t 201), (.t 202), (.t 203), (.t 204)]⟩] [0, 3, 4, 18, 24])
    .skip))
  (.seq (.rg [⟨(some 206), none, .mv (.t 18)⟩,
      ⟨(some 207), none, .mv (.t 24)⟩,
      ⟨(some 208), none, .bin .lss (.t 206) (.t 207)⟩,
      ⟨(some 209), none, .mv (.t 208)⟩,
      ⟨(some 210), some (209, true), .mv (.t 24)⟩,
      ⟨(some 211), some (209, true), .mv (.t 3)⟩,
      ⟨(some 212), some (209, true), .bin .lss (.t 210) (.t 211)⟩,
      ⟨(some 213), none, .pick (.t 209) (.t 212) (.c (.bool false))⟩] [0, 3, 4, 18, 24, 213])
  (.cond (.t 213)
    (.rg [⟨(some 214), none, .mv (.t 0)⟩,
        ⟨(some 215), none, .mv (.t 18)⟩,
        ⟨(some 216), none, .mv (.t 24)⟩,
        ⟨(some 217), none, .mv (.t 3)⟩,
        ⟨(some 218), none, .mv (.t 4)⟩,
        ⟨(some 219), none, .call 0 (.f 85) [(.t 214), (.t 215), (.t 216), (.t 217), (.t 218)]⟩] [])
    .skip))))))))))))),
  []⟩

/- slices.rotateLeft[spillway/api.Pair] -/
def an86 : Ann := [[2], [0, 1], [2], [0], [2], []]
def fn86 : Vs.Fn := ⟨2,
  (.seq (.rg [⟨(some 4), none, .mv (.t 0)⟩,
      ⟨(some 5), none, .mv (.t 1)⟩,
      ⟨(some 6), none, .slsl 2 (.t 4) none (some (.t 5)) none⟩,
      ⟨(some 7), none, .call 2 (.f 94) [(.t 6)]⟩] [0, 1])
  (.seq (.rg [⟨(some 8), none, .mv (.t 0)⟩,
      ⟨(some 9), none, .mv (.t 1)⟩,
      ⟨(some 10), none, .slsl 2 (.t 8) (some (.t 9)) none none⟩,
      ⟨(some 11), none, .call 2 (.f 94) [(.t 10)]⟩] [0])
  (.rg [⟨(some 12), none, .mv (.t 0)⟩,
      ⟨(some 13), none, .call 2 (.f 94) [(.t 12)]⟩] []))),
  []⟩

/- internal/bytealg.Cutover -/
def an88 : Ann := [[0], [2]]
def fn88 : Vs.Fn := ⟨1,
  (.seq (.rg [⟨(some 2), none, .mv (.c (.int .i64 0))⟩] [0])
  (.seq (.rg [⟨(some 3), none, .mv (.t 0)⟩,
      ⟨(some 4), none, .bin .add (.t 3) (.c (.int .i64 16))⟩,
      ⟨(some 5), none, .bin .quo (.t 4) (.c (.int .i64 8))⟩,
      ⟨(some 2), none, .mv (.t 5)⟩] [2])
  .ret)),
  [.t 2]⟩

/- internal/bytealg.IndexRabinKarp[string] -/
def an89 : Ann := [[0, 1], [2], [0, 1, 5, 6], [0, 1, 5, 6, 7], [0, 1, 5, 6, 7, 8], [0, 1, 5, 6, 7, 8, 9], [0, 1, 5, 6, 7, 8, 9], [0, 1, 5, 6, 7, 8, 9, 20], [0, 1, 5, 6, 7, 8, 9], [0, 1, 5, 6, 7, 8, 9], [0, 1, 5, 6, 7, 8, 39], [4], [0, 1, 5, 6, 7, 8, 10], [0, 1, 5, 6, 7, 8, 10], [0, 1, 5, 6, 7, 8, 10, 44], [0, 1, 5, 6, 7, 8, 10], [0, 1, 5, 6, 7, 8, 10], [0, 1, 5, 6, 7, 8, 10], [0, 1, 5, 6, 7, 8, 10], [0, 1, 5, 6, 7, 8, 10, 77], [4], [4]]
def fn89B0 : Cd :=
  (.seq (.seq (.rg [⟨(some 18), none, .mv (.t 9)⟩,
      ⟨(some 19), none, .mv (.t 7)⟩,
      ⟨(some 20), none, .bin .lss (.t 18) (.t 19)⟩] [0, 1, 5, 6, 7, 8, 9, 20])
  (.cond (.t 20)
    .skip
    (.exit 0)))
  (.seq (.block 1
    (.rg [⟨(some 23), none, .mv (.t 8)⟩,
        ⟨(some 24), none, .bin .mul (.t 23) (.c (.int .u32 16777619))⟩,
        ⟨(some 25), none, .mv (.t 0)⟩,
        ⟨(some 26), none, .mv (.t 9)⟩,
        ⟨(some 27), none, .ist (.t 25) (.t 26)⟩,
        ⟨(some 28), none, .cvi .u32 (.t 27)⟩,
        ⟨(some 29), none, .bin .add (.t 24) (.t 28)⟩,
        ⟨(some 8), none, .mv (.t 29)⟩] [0, 1, 5, 6, 7, 8, 9]))
  (.rg [⟨(some 21), none, .mv (.t 9)⟩,
      ⟨(some 22), none, .bin .add (.t 21) (.c (.int .i64 1))⟩,
      ⟨(some 9), none, .mv (.t 22)⟩] [0, 1, 5, 6, 7, 8, 9])))
def fn89L0 : Cd := .loop [0, 1, 5, 6, 7, 8, 9] fn89B0
def fn89B1 : Cd :=
  (.seq (.seq (.rg [⟨(some 41), none, .mv (.t 10)⟩,
      ⟨(some 42), none, .mv (.t 0)⟩,
      ⟨(some 43), none, .len true (.t 42)⟩,
      ⟨(some 44), none, .bin .lss (.t 41) (.t 43)⟩] [0, 1, 5, 6, 7, 8, 10, 44])
  (.cond (.t 44)
    .skip
    (.exit 2)))
  (.block 3
    (.seq (.rg [⟨(some 45), none, .mv (.t 8)⟩,
        ⟨(some 46), none, .bin .mul (.t 45) (.c (.int .u32 16777619))⟩,
        ⟨(some 8), none, .mv (.t 46)⟩] [0, 1, 5, 6, 7, 8, 10])
    (.seq (.rg [⟨(some 47), none, .mv (.t 8)⟩,
        ⟨(some 48), none, .mv (.t 0)⟩,
        ⟨(some 49), none, .mv (.t 10)⟩,
        ⟨(some 50), none, .ist (.t 48) (.t 49)⟩,
        ⟨(some 51), none, .cvi .u32 (.t 50)⟩,
        ⟨(some 52), none, .bin .add (.t 47) (.t 51)⟩,
        ⟨(some 8), none, .mv (.t 52)⟩] [0, 1, 5, 6, 7, 8, 10])
    (.seq (.rg [⟨(some 53), none, .mv (.t 8)⟩,
        ⟨(some 54), none, .mv (.t 6)⟩,
        ⟨(some 55), none, .mv (.t 0)⟩,
        ⟨(some 56), none, .mv (.t 10)⟩,
        ⟨(some 57), none, .mv (.t 7)⟩,
        ⟨(some 58), none, .bin .sub (.t 56) (.t 57)⟩,
        ⟨(some 59), none, .ist (.t 55) (.t 58)⟩,
        ⟨(some 60), none, .cvi .u32 (.t 59)⟩,
        ⟨(some 61), none, .bin .mul (.t 54) (.t 60)⟩,
        ⟨(some 62), none, .bin .sub (.t 53) (.t 61)⟩,
        ⟨(some 8), none, .mv (.t 62)⟩] [0, 1, 5, 6, 7, 8, 10])
    (.seq (.rg [⟨(some 63), none, .mv (.t 10)⟩,
        ⟨(some 64), none, .bin .add (.t 63) (.c (.int .i64 1))⟩,
        ⟨(some 10), none, .mv (.t 64)⟩] [0, 1, 5, 6, 7, 8, 10])
    (.seq (.rg [⟨(some 65), none, .mv (.t 8)⟩,
        ⟨(some 66), none, .mv (.t 5)⟩,
        ⟨(some 67), none, .bin .eql (.t 65) (.t 66)⟩,
        ⟨(some 68), none, .mv (.t 67)⟩,
        ⟨(some 69), some (68, true), .mv (.t 0)⟩,
        ⟨(some 70), some (68, true), .mv (.t 10)⟩,
        ⟨(some 71), some (68, true), .mv (.t 7)⟩,
        ⟨(some 72), some (68, true), .bin .sub (.t 70) (.t 71)⟩,
        ⟨(some 73), some (68, true), .mv (.t 10)⟩,
        ⟨(some 74), some (68, true), .slst (.t 69) (some (.t 72)) (some (.t 73))⟩,
        ⟨(some 75), some (68, true), .mv (.t 1)⟩,
        ⟨(some 76), some (68, true), .bin .eql (.t 74) (.t 75)⟩,
        ⟨(some 77), none, .pick (.t 68) (.t 76) (.c (.bool false))⟩] [0, 1, 5, 6, 7, 8, 10, 77])
    (.cond (.t 77)
      (.seq (.rg [⟨(some 78), none, .mv (.t 10)⟩,
          ⟨(some 79), none, .mv (.t 7)⟩,
          ⟨(some 80), none, .bin .sub (.t 78) (.t 79)⟩,
          ⟨(some 4), none, .mv (.t 80)⟩] [4])
      .ret)
      .skip))))))))
def fn89L1 : Cd := .loop [0, 1, 5, 6, 7, 8, 10] fn89B1
def fn89 : Vs.Fn := ⟨2,
  (.seq (.rg [⟨(some 4), none, .mv (.c (.int .i64 0))⟩] [0, 1])
  (.seq (.rg [⟨(some 12), none, .mv (.t 1)⟩,
      ⟨(some 13), none, .call 2 (.f 95) [(.t 12)]⟩,
      ⟨(some 11), none, .mv (.t 13)⟩,
      ⟨(some 14), none, .ext (.t 11) 0⟩,
      ⟨(some 15), none, .ext (.t 11) 1⟩,
      ⟨(some 5), none, .mv (.t 14)⟩,
      ⟨(some 6), none, .mv (.t 15)⟩] [0, 1, 5, 6])
  (.seq (.rg [⟨(some 16), none, .mv (.t 1)⟩,
      ⟨(some 17), none, .len true (.t 16)⟩,
      ⟨(some 7), none, .mv (.t 17)⟩] [0, 1, 5, 6, 7])
  (.seq (.rg [⟨(some 8), none, .mv (.c (.int .u32 0))⟩] [0, 1, 5, 6, 7, 8])
  (.seq (.seq (.rg [⟨(some 9), none, .mv (.c (.int .i64 0))⟩] [0, 1, 5, 6, 7, 8, 9])
  (.block 0
    fn89L0))
  (.seq (.seq (.rg [⟨(some 30), none, .mv (.t 8)⟩,
      ⟨(some 31), none, .mv (.t 5)⟩,
      ⟨(some 32), none, .bin .eql (.t 30) (.t 31)⟩,
      ⟨(some 33), none, .mv (.t 32)⟩,
      ⟨(some 34), some (33, true), .mv (.t 0)⟩,
      ⟨(some 35), some (33, true), .mv (.t 7)⟩,
      ⟨(some 36), some (33, true), .slst (.t 34) none (some (.t 35))⟩,
      ⟨(some 37), some (33, true), .mv (.t 1)⟩,
      ⟨(some 38), some (33, true), .bin .eql (.t 36) (.t 37)⟩,
      ⟨(some 39), none, .pick (.t 33) (.t 38) (.c (.bool false))⟩] [0, 1, 5, 6, 7, 8, 39])
  (.cond (.t 39)
    (.seq (.rg [⟨(some 4), none, .mv (.c (.int .i64 0))⟩] [4])
    .ret)
    .skip))
  (.seq (.seq (.rg [⟨(some 40), none, .mv (.t 7)⟩,
      ⟨(some 10), none, .mv (.t 40)⟩] [0, 1, 5, 6, 7, 8, 10])
  (.block 2
    fn89L1))
  (.seq (.rg [⟨(some 4), none, .mv (.c (.int .i64 (-1)))⟩] [4])
  .ret)))))))),
  [.t 4]⟩

/- slices.rotateCmpFunc[spillway/api.Pair] -/
def an93 : Ann := [[0, 2, 3, 4, 10], [0, 2, 4, 10, 11], [0, 2, 4, 10, 11], [0, 2, 4, 10, 11, 20], [0, 2, 4, 10, 11, 23], [0], [0, 2, 4, 10, 11], [0, 2, 4, 10, 11], [0], [0, 2, 4, 10, 11], [0, 2, 4, 10, 11], [0], []]
def fn93B0 : Cd :=
  (.seq (.seq (.rg [⟨(some 18), none, .mv (.t 10)⟩,
      ⟨(some 19), none, .mv (.t 11)⟩,
      ⟨(some 20), none, .bin .neq (.t 18) (.t 19)⟩] [0, 2, 4, 10, 11, 20])
  (.cond (.t 20)
    .skip
    (.exit 0)))
  (.block 1
    (.seq (.rg [⟨(some 21), none, .mv (.t 10)⟩,
        ⟨(some 22), none, .mv (.t 11)⟩,
        ⟨(some 23), none, .bin .gtr (.t 21) (.t 22)⟩] [0, 2, 4, 10, 11, 23])
    (.cond (.t 23)
      (.seq (.rg [⟨(some 24), none, .mv (.t 0)⟩,
          ⟨(some 25), none, .mv (.t 2)⟩,
          ⟨(some 26), none, .mv (.t 10)⟩,
          ⟨(some 27), none, .bin .sub (.t 25) (.t 26)⟩,
          ⟨(some 28), none, .mv (.t 2)⟩,
          ⟨(some 29), none, .mv (.t 11)⟩,
          ⟨(some 30), none, .mv (.t 4)⟩,
          ⟨(some 31), none, .call 0 (.f 96) [(.t 24), (.t 27), (.t 28), (.t 29), (.t 30)]⟩] [0, 2, 4, 10, 11])
      (.rg [⟨(some 32), none, .mv (.t 10)⟩,
          ⟨(some 33), none, .mv (.t 11)⟩,
          ⟨(some 34), none, .bin .sub (.t 32) (.t 33)⟩,
          ⟨(some 10), none, .mv (.t 34)⟩] [0, 2, 4, 10, 11]))
      (.seq (.rg [⟨(some 35), none, .mv (.t 0)⟩,
          ⟨(some 36), none, .mv (.t 2)⟩,
          ⟨(some 37), none, .mv (.t 10)⟩,
          ⟨(some 38), none, .bin .sub (.t 36) (.t 37)⟩,
          ⟨(some 39), none, .mv (.t 2)⟩,
          ⟨(some 40), none, .mv (.t 11)⟩,
          ⟨(some 41), none, .bin .add (.t 39) (.t 40)⟩,
          ⟨(some 42), none, .mv (.t 10)⟩,
          ⟨(some 43), none, .bin .sub (.t 41) (.t 42)⟩,
          ⟨(some 44), none, .mv (.t 10)⟩,
          ⟨(some 45), none, .mv (.t 4)⟩,
          ⟨(some 46), none, .call 0 (.f 96) [(.t 35), (.t 38), (.t 43), (.t 44), (.t 45)]⟩] [0, 2, 4, 10, 11])
      (.rg [⟨(some 47), none, .mv (.t 11)⟩,
          ⟨(some 48), none, .mv (.t 10)⟩,
          ⟨(some 49), none, .bin .sub (.t 47) (.t 48)⟩,
          ⟨(some 11), none, .mv (.t 49)⟩] [0, 2, 4, 10, 11]))))))
def fn93L0 : Cd := .loop [0, 2, 4, 10, 11] fn93B0
def fn93 : Vs.Fn := ⟨5,
  (.seq (.rg [⟨(some 12), none, .mv (.t 2)⟩,
      ⟨(some 13), none, .mv (.t 1)⟩,
      ⟨(some 14), none, .bin .sub (.t 12) (.t 13)⟩,
      ⟨(some 10), none, .mv (.t 14)⟩] [0, 2, 3, 4, 10])
  (.seq (.rg [⟨(some 15), none, .mv (.t 3)⟩,
      ⟨(some 16), none, .mv (.t 2)⟩,
      ⟨(some 17), none, .bin .sub (.t 15) (.t 16)⟩,
      ⟨(some 11), none, .mv (.t 17)⟩] [0, 2, 4, 10, 11])
  (.seq (.block 0
    fn93L0)
  (.rg [⟨(some 50), none, .mv (.t 0)⟩,
      ⟨(some 51), none, .mv (.t 2)⟩,
      ⟨(some 52), none, .mv (.t 10)⟩,
      ⟨(some 53), none, .bin .sub (.t 51) (.t 52)⟩,
      ⟨(some 54), none, .mv (.t 2)⟩,
      ⟨(some 55), none, .mv (.t 10)⟩,
      ⟨(some 56), none, .mv (.t 4)⟩,
      ⟨(some 57), none, .call 0 (.f 96) [(.t 50), (.t 53), (.t 54), (.t 55), (.t 56)]⟩] [])))),
  []⟩

/- slices.Reverse[[]spillway/api.Pair,spillway/api.Pair] -/
def an94 : Ann := [[0, 2, 3], [0, 2, 3], [0, 2, 3, 9], [0, 2, 3], [0, 2, 3]]
def fn94B0 : Cd :=
  (.seq (.seq (.rg [⟨(some 7), none, .mv (.t 2)⟩,
      ⟨(some 8), none, .mv (.t 3)⟩,
      ⟨(some 9), none, .bin .lss (.t 7) (.t 8)⟩] [0, 2, 3, 9])
  (.cond (.t 9)
    .skip
    (.exit 0)))
  (.seq (.block 1
    (.rg [⟨(some 14), none, .mv (.t 0)⟩,
        ⟨(some 15), none, .mv (.t 2)⟩,
        ⟨(some 16), none, .mv (.t 0)⟩,
        ⟨(some 17), none, .mv (.t 3)⟩,
        ⟨(some 18), none, .mv (.t 0)⟩,
        ⟨(some 19), none, .mv (.t 3)⟩,
        ⟨(some 20), none, .iad 2 (.t 18) (.t 19)⟩,
        ⟨(some 21), none, .load true 2 (.t 20) false⟩,
        ⟨(some 22), none, .mv (.t 0)⟩,
        ⟨(some 23), none, .mv (.t 2)⟩,
        ⟨(some 24), none, .iad 2 (.t 22) (.t 23)⟩,
        ⟨(some 25), none, .load true 2 (.t 24) false⟩,
        ⟨(some 26), none, .iad 2 (.t 14) (.t 15)⟩,
        ⟨none, none, .store 2 (.t 26) (.t 21)⟩,
        ⟨(some 27), none, .iad 2 (.t 16) (.t 17)⟩,
        ⟨none, none, .store 2 (.t 27) (.t 25)⟩] [0, 2, 3]))
  (.rg [⟨(some 10), none, .mv (.t 2)⟩,
      ⟨(some 11), none, .bin .add (.t 10) (.c (.int .i64 1))⟩,
      ⟨(some 12), none, .mv (.t 3)⟩,
      ⟨(some 13), none, .bin .sub (.t 12) (.c (.int .i64 1))⟩,
      ⟨(some 2), none, .mv (.t 11)⟩,
      ⟨(some 3), none, .mv (.t 13)⟩] [0, 2, 3])))
def fn94L0 : Cd := .loop [0, 2, 3] fn94B0
def fn94 : Vs.Fn := ⟨1,
  (.seq (.rg [⟨(some 4), none, .mv (.t 0)⟩,
      ⟨(some 5), none, .len false (.t 4)⟩,
      ⟨(some 6), none, .bin .sub (.t 5) (.c (.int .i64 1))⟩,
      ⟨(some 2), none, .mv (.c (.int .i64 0))⟩,
      ⟨(some 3), none, .mv (.t 6)⟩] [0, 2, 3])
  (.block 0
    fn94L0)),
  []⟩

/- internal/bytealg.hashStr[string] -/
def an95 : Ann := [[0], [0, 4], [0, 4, 5], [0, 4, 5], [0, 4, 5, 12], [0, 4, 5], [0, 4, 5], [0, 4, 6, 7], [4, 6, 7, 8], [4, 6, 7, 8], [4, 6, 7, 8, 25], [4, 6, 7, 8, 30], [4, 6, 7, 8], [4, 6, 7, 8], [4, 6, 7, 8], [2, 3]]
def fn95B0 : Cd :=
  (.seq (.seq (.rg [⟨(some 9), none, .mv (.t 5)⟩,
      ⟨(some 10), none, .mv (.t 0)⟩,
      ⟨(some 11), none, .len true (.t 10)⟩,
      ⟨(some 12), none, .bin .lss (.t 9) (.t 11)⟩] [0, 4, 5, 12])
  (.cond (.t 12)
    .skip
    (.exit 0)))
  (.seq (.block 1
    (.rg [⟨(some 15), none, .mv (.t 4)⟩,
        ⟨(some 16), none, .bin .mul (.t 15) (.c (.int .u32 16777619))⟩,
        ⟨(some 17), none, .mv (.t 0)⟩,
        ⟨(some 18), none, .mv (.t 5)⟩,
        ⟨(some 19), none, .ist (.t 17) (.t 18)⟩,
        ⟨(some 20), none, .cvi .u32 (.t 19)⟩,
        ⟨(some 21), none, .bin .add (.t 16) (.t 20)⟩,
        ⟨(some 4), none, .mv (.t 21)⟩] [0, 4, 5]))
  (.rg [⟨(some 13), none, .mv (.t 5)⟩,
      ⟨(some 14), none, .bin .add (.t 13) (.c (.int .i64 1))⟩,
      ⟨(some 5), none, .mv (.t 14)⟩] [0, 4, 5])))
def fn95L0 : Cd := .loop [0, 4, 5] fn95B0
def fn95B1 : Cd :=
  (.seq (.seq (.rg [⟨(some 24), none, .mv (.t 8)⟩,
      ⟨(some 25), none, .bin .gtr (.t 24) (.c (.int .i64 0))⟩] [4, 6, 7, 8, 25])
  (.cond (.t 25)
    .skip
    (.exit 2)))
  (.seq (.block 3
    (.seq (.seq (.rg [⟨(some 28), none, .mv (.t 8)⟩,
        ⟨(some 29), none, .bin .and (.t 28) (.c (.int .i64 1))⟩,
        ⟨(some 30), none, .bin .neq (.t 29) (.c (.int .i64 0))⟩] [4, 6, 7, 8, 30])
    (.cond (.t 30)
      (.rg [⟨(some 31), none, .mv (.t 6)⟩,
          ⟨(some 32), none, .mv (.t 7)⟩,
          ⟨(some 33), none, .bin .mul (.t 31) (.t 32)⟩,
          ⟨(some 6), none, .mv (.t 33)⟩] [4, 6, 7, 8])
      .skip))
    (.rg [⟨(some 34), none, .mv (.t 7)⟩,
        ⟨(some 35), none, .mv (.t 7)⟩,
        ⟨(some 36), none, .bin .mul (.t 34) (.t 35)⟩,
        ⟨(some 7), none, .mv (.t 36)⟩] [4, 6, 7, 8])))
  (.rg [⟨(some 26), none, .mv (.t 8)⟩,
      ⟨(some 27), none, .bin .shr (.t 26) (.c (.int .u64 1))⟩,
      ⟨(some 8), none, .mv (.t 27)⟩] [4, 6, 7, 8])))
def fn95L1 : Cd := .loop [4, 6, 7, 8] fn95B1
def fn95 : Vs.Fn := ⟨1,
  (.seq (.rg [⟨(some 2), none, .mv (.c (.int .u32 0))⟩,
      ⟨(some 3), none, .mv (.c (.int .u32 0))⟩] [0])
  (.seq (.rg [⟨(some 4), none, .mv (.c (.int .u32 0))⟩] [0, 4])
  (.seq (.seq (.rg [⟨(some 5), none, .mv (.c (.int .i64 0))⟩] [0, 4, 5])
  (.block 0
    fn95L0))
  (.seq (.rg [⟨(some 6), none, .mv (.c (.int .u32 1))⟩,
      ⟨(some 7), none, .mv (.c (.int .u32 16777619))⟩] [0, 4, 6, 7])
  (.seq (.seq (.rg [⟨(some 22), none, .mv (.t 0)⟩,
      ⟨(some 23), none, .len true (.t 22)⟩,
      ⟨(some 8), none, .mv (.t 23)⟩] [4, 6, 7, 8])
  (.block 2
    fn95L1))
  (.seq (.rg [⟨(some 37), none, .mv (.t 4)⟩,
      ⟨(some 38), none, .mv (.t 6)⟩,
      ⟨(some 2), none, .mv (.t 37)⟩,
      ⟨(some 3), none, .mv (.t 38)⟩] [2, 3])
  .ret)))))),
  [.t 2, .t 3]⟩

/- slices.swapRangeCmpFunc[spillway/api.Pair] -/
def an96 : Ann := [[0, 1, 2, 3, 10], [0, 1, 2, 3, 10], [0, 1, 2, 3, 10, 13], [0, 1, 2, 3, 10], [0, 1, 2, 3, 10]]
def fn96B0 : Cd :=
  (.seq (.seq (.rg [⟨(some 11), none, .mv (.t 10)⟩,
      ⟨(some 12), none, .mv (.t 3)⟩,
      ⟨(some 13), none, .bin .lss (.t 11) (.t 12)⟩] [0, 1, 2, 3, 10, 13])
  (.cond (.t 13)
    .skip
    (.exit 0)))
  (.seq (.block 1
    (.rg [⟨(some 16), none, .mv (.t 0)⟩,
        ⟨(some 17), none, .mv (.t 1)⟩,
        ⟨(some 18), none, .mv (.t 10)⟩,
        ⟨(some 19), none, .bin .add (.t 17) (.t 18)⟩,
        ⟨(some 20), none, .mv (.t 0)⟩,
        ⟨(some 21), none, .mv (.t 2)⟩,
        ⟨(some 22), none, .mv (.t 10)⟩,
        ⟨(some 23), none, .bin .add (.t 21) (.t 22)⟩,
        ⟨(some 24), none, .mv (.t 0)⟩,
        ⟨(some 25), none, .mv (.t 2)⟩,
        ⟨(some 26), none, .mv (.t 10)⟩,
        ⟨(some 27), none, .bin .add (.t 25) (.t 26)⟩,
        ⟨(some 28), none, .iad 2 (.t 24) (.t 27)⟩,
        ⟨(some 29), none, .load true 2 (.t 28) false⟩,
        ⟨(some 30), none, .mv (.t 0)⟩,
        ⟨(some 31), none, .mv (.t 1)⟩,
        ⟨(some 32), none, .mv (.t 10)⟩,
        ⟨(some 33), none, .bin .add (.t 31) (.t 32)⟩,
        ⟨(some 34), none, .iad 2 (.t 30) (.t 33)⟩,
        ⟨(some 35), none, .load true 2 (.t 34) false⟩,
        ⟨(some 36), none, .iad 2 (.t 16) (.t 19)⟩,
        ⟨none, none, .store 2 (.t 36) (.t 29)⟩,
        ⟨(some 37), none, .iad 2 (.t 20) (.t 23)⟩,
        ⟨none, none, .store 2 (.t 37) (.t 35)⟩] [0, 1, 2, 3, 10]))
  (.rg [⟨(some 14), none, .mv (.t 10)⟩,
      ⟨(some 15), none, .bin .add (.t 14) (.c (.int .i64 1))⟩,
      ⟨(some 10), none, .mv (.t 15)⟩] [0, 1, 2, 3, 10])))
def fn96L0 : Cd := .loop [0, 1, 2, 3, 10] fn96B0
def fn96 : Vs.Fn := ⟨5,
  (.seq (.rg [⟨(some 10), none, .mv (.c (.int .i64 0))⟩] [0, 1, 2, 3, 10])
  (.block 0
    fn96L0)),
  []⟩

def pg : Pg := fun f => match f with
  | 3 => some fn3
  | 4 => some fn4
  | 5 => some fn5
  | 6 => some fn6
  | 7 => some fn7
  | 8 => some fn8
  | 9 => some fn9
  | 10 => some fn10
  | 12 => some fn12
  | 13 => some fn13
  | 14 => some fn14
  | 15 => some fn15
  | 16 => some fn16
  | 17 => some fn17
  | 18 => some fn18
  | 19 => some fn19
  | 20 => some fn20
  | 21 => some fn21
  | 22 => some fn22
  | 23 => some fn23
  | 24 => some fn24
  | 25 => some fn25
  | 28 => some fn28
  | 29 => some fn29
  | 30 => some fn30
  | 34 => some fn34
  | 35 => some fn35
  | 36 => some fn36
  | 37 => some fn37
  | 38 => some fn38
  | 39 => some fn39
  | 40 => some fn40
  | 41 => some fn41
  | 42 => some fn42
  | 43 => some fn43
  | 44 => some fn44
  | 45 => some fn45
  | 46 => some fn46
  | 47 => some fn47
  | 48 => some fn48
  | 49 => some fn49
  | 50 => some fn50
  | 51 => some fn51
  | 52 => some fn52
  | 53 => some fn53
  | 54 => some fn54
  | 55 => some fn55
  | 56 => some fn56
  | 57 => some fn57
  | 58 => some fn58
  | 59 => some fn59
  | 60 => some fn60
  | 63 => some fn63
  | 64 => some fn64
  | 65 => some fn65
  | 66 => some fn66
  | 67 => some fn67
  | 68 => some fn68
  | 69 => some fn69
  | 70 => some fn70
  | 71 => some fn71
  | 72 => some fn72
  | 73 => some fn73
  | 74 => some fn74
  | 75 => some fn75
  | 77 => some fn77
  | 78 => some fn78
  | 79 => some fn79
  | 80 => some fn80
  | 81 => some fn81
  | 82 => some fn82
  | 84 => some fn84
  | 85 => some fn85
  | 86 => some fn86
  | 88 => some fn88
  | 89 => some fn89
  | 93 => some fn93
  | 94 => some fn94
  | 95 => some fn95
  | 96 => some fn96
  | _ => none

theorem cfn3 : cFn Try.prog an3 Try.f3 = some fn3 := by kernel_rfl
theorem cfn4 : cFn Try.prog an4 Try.f4 = some fn4 := by kernel_rfl
theorem cfn5 : cFn Try.prog an5 Try.f5 = some fn5 := by kernel_rfl
theorem cfn6 : cFn Try.prog an6 Try.f6 = some fn6 := by kernel_rfl
theorem cfn7 : cFn Try.prog an7 Try.f7 = some fn7 := by kernel_rfl
theorem cfn8 : cFn Try.prog an8 Try.f8 = some fn8 := by kernel_rfl
theorem cfn9 : cFn Try.prog an9 Try.f9 = some fn9 := by kernel_rfl
theorem cfn10 : cFn Try.prog an10 Try.f10 = some fn10 := by kernel_rfl
theorem cfn12 : cFn Try.prog an12 Try.f12 = some fn12 := by kernel_rfl
theorem cfn13 : cFn Try.prog an13 Try.f13 = some fn13 := by kernel_rfl
theorem cfn14 : cFn Try.prog an14 Try.f14 = some fn14 := by kernel_rfl
theorem cfn15 : cFn Try.prog an15 Try.f15 = some fn15 := by kernel_rfl
theorem cfn16 : cFn Try.prog an16 Try.f16 = some fn16 := by kernel_rfl
theorem cfn17 : cFn Try.prog an17 Try.f17 = some fn17 := by kernel_rfl
theorem cfn18 : cFn Try.prog an18 Try.f18 = some fn18 := by kernel_rfl
theorem cfn19 : cFn Try.prog an19 Try.f19 = some fn19 := by kernel_rfl
theorem cfn20 : cFn Try.prog an20 Try.f20 = some fn20 := by kernel_rfl
theorem cfn21 : cFn Try.prog an21 Try.f21 = some fn21 := by kernel_rfl
theorem cfn22 : cFn Try.prog an22 Try.f22 = some fn22 := by kernel_rfl
theorem cfn23 : cFn Try.prog an23 Try.f23 = some fn23 := by kernel_rfl
theorem cfn24 : cFn Try.prog an24 Try.f24 = some fn24 := by kernel_rfl
theorem cfn25 : cFn Try.prog an25 Try.f25 = some fn25 := by kernel_rfl
theorem cfn28 : cFn Try.prog an28 Try.f28 = some fn28 := by kernel_rfl
theorem cfn29 : cFn Try.prog an29 Try.f29 = some fn29 := by kernel_rfl
theorem cfn30 : cFn Try.prog an30 Try.f30 = some fn30 := by kernel_rfl
theorem cfn34 : cFn Try.prog an34 Try.f34 = some fn34 := by kernel_rfl
theorem cfn35 : cFn Try.prog an35 Try.f35 = some fn35 := by kernel_rfl
theorem cfn36 : cFn Try.prog an36 Try.f36 = some fn36 := by kernel_rfl
theorem cfn37 : cFn Try.prog an37 Try.f37 = some fn37 := by kernel_rfl
theorem cfn38 : cFn Try.prog an38 Try.f38 = some fn38 := by kernel_rfl
theorem cfn39 : cFn Try.prog an39 Try.f39 = some fn39 := by kernel_rfl
theorem cfn40 : cFn Try.prog an40 Try.f40 = some fn40 := by kernel_rfl
theorem cfn41 : cFn Try.prog an41 Try.f41 = some fn41 := by kernel_rfl
theorem cfn42 : cFn Try.prog an42 Try.f42 = some fn42 := by kernel_rfl
theorem cfn43 : cFn Try.prog an43 Try.f43 = some fn43 := by kernel_rfl
theorem cfn44 : cFn Try.prog an44 Try.f44 = some fn44 := by kernel_rfl
theorem cfn45 : cFn Try.prog an45 Try.f45 = some fn45 := by kernel_rfl
theorem cfn46 : cFn Try.prog an46 Try.f46 = some fn46 := by kernel_rfl
theorem cfn47 : cFn Try.prog an47 Try.f47 = some fn47 := by kernel_rfl
theorem cfn48 : cFn Try.prog an48 Try.f48 = some fn48 := by kernel_rfl
theorem cfn49 : cFn Try.prog an49 Try.f49 = some fn49 := by kernel_rfl
theorem cfn50 : cFn Try.prog an50 Try.f50 = some fn50 := by kernel_rfl
theorem cfn51 : cFn Try.prog an51 Try.f51 = some fn51 := by kernel_rfl
theorem cfn52 : cFn Try.prog an52 Try.f52 = some fn52 := by kernel_rfl
theorem cfn53 : cFn Try.prog an53 Try.f53 = some fn53 := by kernel_rfl
theorem cfn54 : cFn Try.prog an54 Try.f54 = some fn54 := by kernel_rfl
theorem cfn55 : cFn Try.prog an55 Try.f55 = some fn55 := by kernel_rfl
theorem cfn56 : cFn Try.prog an56 Try.f56 = some fn56 := by kernel_rfl
theorem cfn57 : cFn Try.prog an57 Try.f57 = some fn57 := by kernel_rfl
theorem cfn58 : cFn Try.prog an58 Try.f58 = some fn58 := by kernel_rfl
theorem cfn59 : cFn Try.prog an59 Try.f59 = some ⟨3, insCd 2 32 77 [(.str ⟨#[]⟩), (.str ⟨#[]⟩)], [.t 6]⟩ := by kernel_rfl
theorem cfn60 : cFn Try.prog an60 Try.f60 = some fn60 := by kernel_rfl
theorem cfn63 : cFn Try.prog an63 Try.f63 = some fn63 := by kernel_rfl
theorem cfn64 : cFn Try.prog an64 Try.f64 = some fn64 := by kernel_rfl
theorem cfn65 : cFn Try.prog an65 Try.f65 = some fn65 := by kernel_rfl
theorem cfn66 : cFn Try.prog an66 Try.f66 = some fn66 := by kernel_rfl
theorem cfn67 : cFn Try.prog an67 Try.f67 = some fn67 := by kernel_rfl
theorem cfn68 : cFn Try.prog an68 Try.f68 = some fn68 := by kernel_rfl
theorem cfn69 : cFn Try.prog an69 Try.f69 = some fn69 := by kernel_rfl
theorem cfn70 : cFn Try.prog an70 Try.f70 = some fn70 := by kernel_rfl
theorem cfn71 : cFn Try.prog an71 Try.f71 = some fn71 := by kernel_rfl
theorem cfn72 : cFn Try.prog an72 Try.f72 = some fn72 := by kernel_rfl
theorem cfn73 : cFn Try.prog an73 Try.f73 = some fn73 := by kernel_rfl
theorem cfn74 : cFn Try.prog an74 Try.f74 = some fn74 := by kernel_rfl
theorem cfn75 : cFn Try.prog an75 Try.f75 = some fn75 := by kernel_rfl
theorem cfn77 : cFn Try.prog an77 Try.f77 = some fn77 := by kernel_rfl
theorem cfn78 : cFn Try.prog an78 Try.f78 = some fn78 := by kernel_rfl
theorem cfn79 : cFn Try.prog an79 Try.f79 = some fn79 := by kernel_rfl
theorem cfn80 : cFn Try.prog an80 Try.f80 = some fn80 := by kernel_rfl
theorem cfn81 : cFn Try.prog an81 Try.f81 = some fn81 := by kernel_rfl
theorem cfn82 : cFn Try.prog an82 Try.f82 = some fn82 := by kernel_rfl
theorem cfn84 : cFn Try.prog an84 Try.f84 = some fn84 := by kernel_rfl
theorem cfn85 : cFn Try.prog an85 Try.f85 = some fn85 := by kernel_rfl
theorem cfn86 : cFn Try.prog an86 Try.f86 = some fn86 := by kernel_rfl
theorem cfn88 : cFn Try.prog an88 Try.f88 = some fn88 := by kernel_rfl
theorem cfn89 : cFn Try.prog an89 Try.f89 = some fn89 := by kernel_rfl
theorem cfn93 : cFn Try.prog an93 Try.f93 = some fn93 := by kernel_rfl
theorem cfn94 : cFn Try.prog an94 Try.f94 = some fn94 := by kernel_rfl
theorem cfn95 : cFn Try.prog an95 Try.f95 = some fn95 := by kernel_rfl
theorem cfn96 : cFn Try.prog an96 Try.f96 = some fn96 := by kernel_rfl
theorem mixed : Try.prog.follows .mixedOrders = true := by kernel_rfl

theorem pgOk : PgOk Try.prog pg := by
  intro f fn h
  unfold pg at h
  split at h
  · cases h; exact .inl ⟨Try.f3, an3, Try.func3, of_decide_eq_true (by kernel_rfl), cfn3⟩
  · cases h; exact .inl ⟨Try.f4, an4, Try.func4, of_decide_eq_true (by kernel_rfl), cfn4⟩
  · cases h; exact .inl ⟨Try.f5, an5, Try.func5, of_decide_eq_true (by kernel_rfl), cfn5⟩
  · cases h; exact .inl ⟨Try.f6, an6, Try.func6, of_decide_eq_true (by kernel_rfl), cfn6⟩
  · cases h; exact .inl ⟨Try.f7, an7, Try.func7, of_decide_eq_true (by kernel_rfl), cfn7⟩
  · cases h; exact .inl ⟨Try.f8, an8, Try.func8, of_decide_eq_true (by kernel_rfl), cfn8⟩
  · cases h; exact .inl ⟨Try.f9, an9, Try.func9, of_decide_eq_true (by kernel_rfl), cfn9⟩
  · cases h; exact .inl ⟨Try.f10, an10, Try.func10, of_decide_eq_true (by kernel_rfl), cfn10⟩
  · cases h; exact .inl ⟨Try.f12, an12, Try.func12, of_decide_eq_true (by kernel_rfl), cfn12⟩
  · cases h; exact .inl ⟨Try.f13, an13, Try.func13, of_decide_eq_true (by kernel_rfl), cfn13⟩
  · cases h; exact .inl ⟨Try.f14, an14, Try.func14, of_decide_eq_true (by kernel_rfl), cfn14⟩
  · cases h; exact .inl ⟨Try.f15, an15, Try.func15, of_decide_eq_true (by kernel_rfl), cfn15⟩
  · cases h; exact .inl ⟨Try.f16, an16, Try.func16, of_decide_eq_true (by kernel_rfl), cfn16⟩
  · cases h; exact .inl ⟨Try.f17, an17, Try.func17, of_decide_eq_true (by kernel_rfl), cfn17⟩
  · cases h; exact .inl ⟨Try.f18, an18, Try.func18, of_decide_eq_true (by kernel_rfl), cfn18⟩
  · cases h; exact .inl ⟨Try.f19, an19, Try.func19, of_decide_eq_true (by kernel_rfl), cfn19⟩
  · cases h; exact .inl ⟨Try.f20, an20, Try.func20, of_decide_eq_true (by kernel_rfl), cfn20⟩
  · cases h; exact .inl ⟨Try.f21, an21, Try.func21, of_decide_eq_true (by kernel_rfl), cfn21⟩
  · cases h; exact .inl ⟨Try.f22, an22, Try.func22, of_decide_eq_true (by kernel_rfl), cfn22⟩
  · cases h; exact .inl ⟨Try.f23, an23, Try.func23, of_decide_eq_true (by kernel_rfl), cfn23⟩
  · cases h; exact .inl ⟨Try.f24, an24, Try.func24, of_decide_eq_true (by kernel_rfl), cfn24⟩
  · cases h; exact .inl ⟨Try.f25, an25, Try.func25, of_decide_eq_true (by kernel_rfl), cfn25⟩
  · cases h; exact .inl ⟨Try.f28, an28, Try.func28, of_decide_eq_true (by kernel_rfl), cfn28⟩
  · cases h; exact .inl ⟨Try.f29, an29, Try.func29, of_decide_eq_true (by kernel_rfl), cfn29⟩
  · cases h; exact .inl ⟨Try.f30, an30, Try.func30, of_decide_eq_true (by kernel_rfl), cfn30⟩
  · cases h; exact .inl ⟨Try.f34, an34, Try.func34, of_decide_eq_true (by kernel_rfl), cfn34⟩
  · cases h; exact .inl ⟨Try.f35, an35, Try.func35, of_decide_eq_true (by kernel_rfl), cfn35⟩
  · cases h; exact .inl ⟨Try.f36, an36, Try.func36, of_decide_eq_true (by kernel_rfl), cfn36⟩
  · cases h; exact .inl ⟨Try.f37, an37, Try.func37, of_decide_eq_true (by kernel_rfl), cfn37⟩
  · cases h; exact .inl ⟨Try.f38, an38, Try.func38, of_decide_eq_true (by kernel_rfl), cfn38⟩
  · cases h; exact .inl ⟨Try.f39, an39, Try.func39, of_decide_eq_true (by kernel_rfl), cfn39⟩
  · cases h; exact .inl ⟨Try.f40, an40, Try.func40, of_decide_eq_true (by kernel_rfl), cfn40⟩
  · cases h; exact .inl ⟨Try.f41, an41, Try.func41, of_decide_eq_true (by kernel_rfl), cfn41⟩
  · cases h; exact .inl ⟨Try.f42, an42, Try.func42, of_decide_eq_true (by kernel_rfl), cfn42⟩
  · cases h; exact .inl ⟨Try.f43, an43, Try.func43, of_decide_eq_true (by kernel_rfl), cfn43⟩
  · cases h; exact .inl ⟨Try.f44, an44, Try.func44, of_decide_eq_true (by kernel_rfl), cfn44⟩
  · cases h; exact .inl ⟨Try.f45, an45, Try.func45, of_decide_eq_true (by kernel_rfl), cfn45⟩
  · cases h; exact .inl ⟨Try.f46, an46, Try.func46, of_decide_eq_true (by kernel_rfl), cfn46⟩
  · cases h; exact .inl ⟨Try.f47, an47, Try.func47, of_decide_eq_true (by kernel_rfl), cfn47⟩
  · cases h; exact .inl ⟨Try.f48, an48, Try.func48, of_decide_eq_true (by kernel_rfl), cfn48⟩
  · cases h; exact .inl ⟨Try.f49, an49, Try.func49, of_decide_eq_true (by kernel_rfl), cfn49⟩
  · cases h; exact .inl ⟨Try.f50, an50, Try.func50, of_decide_eq_true (by kernel_rfl), cfn50⟩
  · cases h; exact .inl ⟨Try.f51, an51, Try.func51, of_decide_eq_true (by kernel_rfl), cfn51⟩
  · cases h; exact .inl ⟨Try.f52, an52, Try.func52, of_decide_eq_true (by kernel_rfl), cfn52⟩
  · cases h; exact .inl ⟨Try.f53, an53, Try.func53, of_decide_eq_true (by kernel_rfl), cfn53⟩
  · cases h; exact .inl ⟨Try.f54, an54, Try.func54, of_decide_eq_true (by kernel_rfl), cfn54⟩
  · cases h; exact .inl ⟨Try.f55, an55, Try.func55, of_decide_eq_true (by kernel_rfl), cfn55⟩
  · cases h; exact .inl ⟨Try.f56, an56, Try.func56, of_decide_eq_true (by kernel_rfl), cfn56⟩
  · cases h; exact .inl ⟨Try.f57, an57, Try.func57, of_decide_eq_true (by kernel_rfl), cfn57⟩
  · cases h; exact .inl ⟨Try.f58, an58, Try.func58, of_decide_eq_true (by kernel_rfl), cfn58⟩
  · cases h; exact .inr (insV_spec mixed ⟨Try.f59, an59, Try.func59, of_decide_eq_true (by kernel_rfl), cfn59⟩ (by decide) (by decide) rfl)
  · cases h; exact .inl ⟨Try.f60, an60, Try.func60, of_decide_eq_true (by kernel_rfl), cfn60⟩
  · cases h; exact .inl ⟨Try.f63, an63, Try.func63, of_decide_eq_true (by kernel_rfl), cfn63⟩
  · cases h; exact .inl ⟨Try.f64, an64, Try.func64, of_decide_eq_true (by kernel_rfl), cfn64⟩
  · cases h; exact .inl ⟨Try.f65, an65, Try.func65, of_decide_eq_true (by kernel_rfl), cfn65⟩
  · cases h; exact .inl ⟨Try.f66, an66, Try.func66, of_decide_eq_true (by kernel_rfl), cfn66⟩
  · cases h; exact .inl ⟨Try.f67, an67, Try.func67, of_decide_eq_true (by kernel_rfl), cfn67⟩
  · cases h; exact .inl ⟨Try.f68, an68, Try.func68, of_decide_eq_true (by kernel_rfl), cfn68⟩
  · cases h; exact .inl ⟨Try.f69, an69, Try.func69, of_decide_eq_true (by kernel_rfl), cfn69⟩
  · cases h; exact .inl ⟨Try.f70, an70, Try.func70, of_decide_eq_true (by kernel_rfl), cfn70⟩
  · cases h; exact .inl ⟨Try.f71, an71, Try.func71, of_decide_eq_true (by kernel_rfl), cfn71⟩
  · cases h; exact .inl ⟨Try.f72, an72, Try.func72, of_decide_eq_true (by kernel_rfl), cfn72⟩
  · cases h; exact .inl ⟨Try.f73, an73, Try.func73, of_decide_eq_true (by kernel_rfl), cfn73⟩
  · cases h; exact .inl ⟨Try.f74, an74, Try.func74, of_decide_eq_true (by kernel_rfl), cfn74⟩
  · cases h; exact .inl ⟨Try.f75, an75, Try.func75, of_decide_eq_true (by kernel_rfl), cfn75⟩
  · cases h; exact .inl ⟨Try.f77, an77, Try.func77, of_decide_eq_true (by kernel_rfl), cfn77⟩
  · cases h; exact .inl ⟨Try.f78, an78, Try.func78, of_decide_eq_true (by kernel_rfl), cfn78⟩
  · cases h; exact .inl ⟨Try.f79, an79, Try.func79, of_decide_eq_true (by kernel_rfl), cfn79⟩
  · cases h; exact .inl ⟨Try.f80, an80, Try.func80, of_decide_eq_true (by kernel_rfl), cfn80⟩
  · cases h; exact .inl ⟨Try.f81, an81, Try.func81, of_decide_eq_true (by kernel_rfl), cfn81⟩
  · cases h; exact .inl ⟨Try.f82, an82, Try.func82, of_decide_eq_true (by kernel_rfl), cfn82⟩
  · cases h; exact .inl ⟨Try.f84, an84, Try.func84, of_decide_eq_true (by kernel_rfl), cfn84⟩
  · cases h; exact .inl ⟨Try.f85, an85, Try.func85, of_decide_eq_true (by kernel_rfl), cfn85⟩
  · cases h; exact .inl ⟨Try.f86, an86, Try.func86, of_decide_eq_true (by kernel_rfl), cfn86⟩
  · cases h; exact .inl ⟨Try.f88, an88, Try.func88, of_decide_eq_true (by kernel_rfl), cfn88⟩
  · cases h; exact .inl ⟨Try.f89, an89, Try.func89, of_decide_eq_true (by kernel_rfl), cfn89⟩
  · cases h; exact .inl ⟨Try.f93, an93, Try.func93, of_decide_eq_true (by kernel_rfl), cfn93⟩
  · cases h; exact .inl ⟨Try.f94, an94, Try.func94, of_decide_eq_true (by kernel_rfl), cfn94⟩
  · cases h; exact .inl ⟨Try.f95, an95, Try.func95, of_decide_eq_true (by kernel_rfl), cfn95⟩
  · cases h; exact .inl ⟨Try.f96, an96, Try.func96, of_decide_eq_true (by kernel_rfl), cfn96⟩
  · cases h
end Go.Proofs.Ytinmpfflkcnkfaa
