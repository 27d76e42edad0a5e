import Derived.Test.YtdaajnaphkepmaaChecked
import Derived.Test.YtdaajnaphkepmaaVsLim
namespace Go.Proofs.Ytdaajnaphkepmaa
open Go Go.Vs
set_option maxRecDepth 100000

/- spillway/spillwaylaw12.RingOvf -/
def an3 : Ann := [[0, 1], [2], [0, 1, 14], [4], [0], [0, 1, 5], [0, 5, 6], [5, 6, 7], [5, 6, 7, 8], [5, 6, 7, 8], [5, 6, 7, 8, 26], [2], [5, 6, 7, 8, 9], [5, 6, 7, 8, 9, 33], [5, 6, 7, 8, 9], [0], [5, 6, 7, 8, 9], [0], [5, 6, 7, 8, 43], [4], [5, 6, 7, 8, 10], [5, 6, 7, 8, 10, 11], [5, 6, 7, 8, 10, 11, 12], [5, 6, 7, 8, 10, 11, 12], [5, 6, 7, 8, 10, 11, 12, 58], [5, 6, 7, 8, 10, 11, 12], [5, 6, 7, 8, 10, 11, 12], [2], [2], [2], [5, 6, 7, 8, 79], [4], [5, 6, 7, 8], [4]]
def fn3B0 : Cd :=
  (.seq (.seq (.rg [⟨(some 56), none, .mv (.t 12)⟩,
      ⟨(some 57), none, .mv (.t 8)⟩,
      ⟨(some 58), none, .bin .leq (.t 56) (.t 57)⟩] [5, 6, 7, 8, 10, 11, 12, 58])
  (.cond (.t 58)
    .skip
    (.exit 2)))
  (.seq (.block 3
    (.rg [⟨(some 61), none, .mv (.t 11)⟩,
        ⟨(some 62), none, .mv (.t 12)⟩,
        ⟨(some 63), none, .bin .add (.t 61) (.t 62)⟩,
        ⟨(some 11), none, .mv (.t 63)⟩] [5, 6, 7, 8, 10, 11, 12]))
  (.rg [⟨(some 59), none, .mv (.t 12)⟩,
      ⟨(some 60), none, .bin .add (.t 59) (.c (.int .i64 1))⟩,
      ⟨(some 12), none, .mv (.t 60)⟩] [5, 6, 7, 8, 10, 11, 12])))
def fn3L0 : Cd := .loop [5, 6, 7, 8, 10, 11, 12] fn3B0
def fn3B1 : Cd :=
  (.seq (.seq (.rg [⟨(some 24), none, .mv (.t 8)⟩,
      ⟨(some 25), none, .mv (.t 6)⟩,
      ⟨(some 26), none, .bin .lss (.t 24) (.t 25)⟩] [5, 6, 7, 8, 26])
  (.cond (.t 26)
    .skip
    (.exit 0)))
  (.seq (.block 1
    (.seq (.rg [⟨(some 29), none, .mv (.t 8)⟩,
        ⟨(some 30), none, .call 2 (.f 10) [(.t 29)]⟩,
        ⟨(some 9), none, .alloc [(.bool false), (.int .i64 0)]⟩,
        ⟨none, none, .store 2 (.t 9) (.t 30)⟩] [5, 6, 7, 8, 9])
    (.seq (.seq (.rg [⟨(some 31), none, .mv (.t 8)⟩,
        ⟨(some 32), none, .mv (.t 7)⟩,
        ⟨(some 33), none, .bin .eql (.t 31) (.t 32)⟩] [5, 6, 7, 8, 9, 33])
    (.cond (.t 33)
      (.rg [⟨(some 34), none, .build [(.bool false), (.int .i64 0)] [(0, 1, (.c (.bool true)))]⟩,
          ⟨none, none, .store 2 (.t 9) (.t 34)⟩] [5, 6, 7, 8, 9])
      .skip))
    (.seq (.rg [⟨(some 35), none, .mv (.t 5)⟩,
        ⟨(some 36), none, .mv (.t 8)⟩,
        ⟨(some 37), none, .call 0 (.f 11) [(.t 35), (.t 36)]⟩] [5, 6, 7, 8, 9])
    (.seq (.seq (.rg [⟨(some 38), none, .mv (.t 5)⟩,
        ⟨(some 39), none, .mv (.t 8)⟩,
        ⟨(some 40), none, .load true 2 (.t 9) false⟩,
        ⟨(some 41), none, .build [(.int .i64 0), (.bool false), (.int .i64 0)] [(0, 1, (.t 39)), (1, 2, (.t 40))]⟩,
        ⟨(some 42), none, .call 0 (.f 12) [(.t 38), (.t 41)]⟩,
        ⟨(some 43), none, .bin .neq (.t 42) (.c (.int .i64 0))⟩] [5, 6, 7, 8, 43])
    (.cond (.t 43)
      (.seq (.rg [⟨(some 4), none, .mv (.c (.bool false))⟩] [4])
      .ret)
      .skip))
    (.seq (.rg [⟨(some 44), none, .mv (.t 8)⟩,
        ⟨(some 45), none, .mv (.t 7)⟩,
        ⟨(some 46), none, .bin .geq (.t 44) (.t 45)⟩,
        ⟨(some 47), none, .mv (.t 46)⟩,
        ⟨(some 48), some (47, true), .mv (.t 8)⟩,
        ⟨(some 49), some (47, true), .mv (.t 7)⟩,
        ⟨(some 50), some (47, true), .bin .sub (.t 48) (.t 49)⟩,
        ⟨(some 51), some (47, true), .bin .lss (.t 50) (.c (.int .i64 10))⟩,
        ⟨(some 52), none, .pick (.t 47) (.t 51) (.c (.bool false))⟩,
        ⟨(some 10), none, .mv (.t 52)⟩] [5, 6, 7, 8, 10])
    (.seq (.rg [⟨(some 11), none, .mv (.c (.int .i64 0))⟩] [5, 6, 7, 8, 10, 11])
    (.seq (.seq (.rg [⟨(some 53), none, .mv (.t 8)⟩,
        ⟨(some 54), none, .bin .sub (.t 53) (.c (.int .i64 9))⟩,
        ⟨(some 55), none, .mx [(.c (.int .i64 0)), (.t 54)]⟩,
        ⟨(some 12), none, .mv (.t 55)⟩] [5, 6, 7, 8, 10, 11, 12])
    (.block 2
      fn3L0))
    (.seq (.rg [⟨(some 64), none, .mv (.t 5)⟩,
        ⟨(some 65), none, .call 2 (.f 13) [(.t 64)]⟩,
        ⟨(some 66), none, .fld false 0 1 (.t 65)⟩,
        ⟨(some 67), none, .mv (.t 10)⟩,
        ⟨(some 68), none, .eqb true (.t 66) (.t 67)⟩,
        ⟨(some 69), none, .mv (.t 68)⟩,
        ⟨(some 70), some (69, false), .mv (.t 10)⟩,
        ⟨(some 71), some (69, false), .un .not (.t 70)⟩,
        ⟨(some 72), some (69, false), .mv (.t 71)⟩,
        ⟨(some 73), some (72, true), .mv (.t 5)⟩,
        ⟨(some 74), some (72, true), .call 2 (.f 13) [(.t 73)]⟩,
        ⟨(some 75), some (72, true), .mv (.t 11)⟩,
        ⟨(some 76), some (72, true), .call 2 (.f 10) [(.t 75)]⟩,
        ⟨(some 77), some (72, true), .eqs true [0, 1] (.t 74) (.t 76)⟩,
        ⟨(some 78), some (69, false), .pick (.t 72) (.t 77) (.c (.bool false))⟩,
        ⟨(some 79), none, .pick (.t 69) (.c (.bool true)) (.t 78)⟩] [5, 6, 7, 8, 79])
    (.cond (.t 79)
      (.seq (.rg [⟨(some 4), none, .mv (.c (.bool false))⟩] [4])
      .ret)
      .skip))))))))))
  (.rg [⟨(some 27), none, .mv (.t 8)⟩,
      ⟨(some 28), none, .bin .add (.t 27) (.c (.int .i64 1))⟩,
      ⟨(some 8), none, .mv (.t 28)⟩] [5, 6, 7, 8])))
def fn3L1 : Cd := .loop [5, 6, 7, 8] fn3B1
def fn3 : Vs.Fn := ⟨2,
  (.seq (.rg [⟨(some 4), none, .mv (.c (.bool false))⟩] [0, 1])
  (.seq (.seq (.rg [⟨(some 13), none, .call 2 (.f 8) []⟩,
      ⟨(some 14), none, .un .not (.t 13)⟩] [0, 1, 14])
  (.cond (.t 14)
    (.seq (.rg [⟨(some 4), none, .mv (.c (.bool false))⟩] [4])
    .ret)
    .skip))
  (.seq (.rg [⟨(some 15), none, .call 0 (.f 9) [(.c (.int .i64 10))]⟩,
      ⟨(some 5), none, .mv (.t 15)⟩] [0, 1, 5])
  (.seq (.rg [⟨(some 16), none, .mv (.t 1)⟩,
      ⟨(some 17), none, .bin .rem (.t 16) (.c (.int .u8 40))⟩,
      ⟨(some 18), none, .cvi .i64 (.t 17)⟩,
      ⟨(some 19), none, .bin .add (.t 18) (.c (.int .i64 1))⟩,
      ⟨(some 6), none, .mv (.t 19)⟩] [0, 5, 6])
  (.seq (.rg [⟨(some 20), none, .mv (.t 0)⟩,
      ⟨(some 21), none, .cvi .i64 (.t 20)⟩,
      ⟨(some 22), none, .mv (.t 6)⟩,
      ⟨(some 23), none, .bin .rem (.t 21) (.t 22)⟩,
      ⟨(some 7), none, .mv (.t 23)⟩] [5, 6, 7])
  (.seq (.seq (.rg [⟨(some 8), none, .mv (.c (.int .i64 0))⟩] [5, 6, 7, 8])
  (.block 0
    fn3L1))
  (.seq (.rg [⟨(some 4), none, .mv (.c (.bool true))⟩] [4])
  .ret))))))),
  [.t 4]⟩

/- spillway/spillwaylaw12.RingBounds -/
def an4 : Ann := [[0, 1], [2], [0, 1, 12], [4], [1, 5], [0], [1, 5, 6], [1, 5, 6, 7], [1, 5, 6, 7], [1, 5, 6, 7, 23], [0], [1, 5, 6, 7], [2], [0], [2], [2], [2], [1, 5, 6, 7, 53], [4], [2], [1, 5, 6, 7, 8], [1, 5, 6, 7, 66], [4], [1, 5, 6, 7], [5, 6, 10], [0], [6, 10], [2], [2], [0], [4]]
def fn4B0 : Cd :=
  (.seq (.seq (.rg [⟨(some 19), none, .mv (.t 7)⟩,
      ⟨(some 20), none, .mv (.t 1)⟩,
      ⟨(some 21), none, .bin .rem (.t 20) (.c (.int .u16 400))⟩,
      ⟨(some 22), none, .cvi .i64 (.t 21)⟩,
      ⟨(some 23), none, .bin .leq (.t 19) (.t 22)⟩] [1, 5, 6, 7, 23])
  (.cond (.t 23)
    .skip
    (.exit 0)))
  (.seq (.block 1
    (.seq (.rg [⟨(some 26), none, .mv (.t 6)⟩,
        ⟨(some 27), none, .mv (.t 7)⟩,
        ⟨(some 28), none, .call 0 (.f 11) [(.t 26), (.t 27)]⟩] [1, 5, 6, 7])
    (.seq (.seq (.rg [⟨(some 29), none, .mv (.t 6)⟩,
        ⟨(some 30), none, .mv (.t 7)⟩,
        ⟨(some 31), none, .call 2 (.f 10) [(.c (.int .i64 1))]⟩,
        ⟨(some 32), none, .build [(.int .i64 0), (.bool false), (.int .i64 0)] [(0, 1, (.t 30)), (1, 2, (.t 31))]⟩,
        ⟨(some 33), none, .call 0 (.f 12) [(.t 29), (.t 32)]⟩,
        ⟨(some 34), none, .bin .neq (.t 33) (.c (.int .i64 0))⟩,
        ⟨(some 35), none, .mv (.t 34)⟩,
        ⟨(some 36), some (35, false), .mv (.t 6)⟩,
        ⟨(some 37), some (35, false), .call 2 (.f 14) [(.t 36)]⟩,
        ⟨(some 38), some (35, false), .mv (.t 7)⟩,
        ⟨(some 39), some (35, false), .bin .add (.t 38) (.c (.int .i64 1))⟩,
        ⟨(some 40), some (35, false), .mv (.t 5)⟩,
        ⟨(some 41), some (35, false), .mn [(.t 39), (.t 40)]⟩,
        ⟨(some 42), some (35, false), .bin .neq (.t 37) (.t 41)⟩,
        ⟨(some 43), none, .pick (.t 35) (.c (.bool true)) (.t 42)⟩,
        ⟨(some 44), none, .mv (.t 43)⟩,
        ⟨(some 45), some (44, false), .mv (.t 6)⟩,
        ⟨(some 46), some (44, false), .call 2 (.f 13) [(.t 45)]⟩,
        ⟨(some 47), some (44, false), .mv (.t 7)⟩,
        ⟨(some 48), some (44, false), .bin .add (.t 47) (.c (.int .i64 1))⟩,
        ⟨(some 49), some (44, false), .mv (.t 5)⟩,
        ⟨(some 50), some (44, false), .mn [(.t 48), (.t 49)]⟩,
        ⟨(some 51), some (44, false), .call 2 (.f 10) [(.t 50)]⟩,
        ⟨(some 52), some (44, false), .eqs true [0, 1] (.t 46) (.t 51)⟩,
        ⟨(some 53), none, .pick (.t 44) (.c (.bool true)) (.t 52)⟩] [1, 5, 6, 7, 53])
    (.cond (.t 53)
      (.seq (.rg [⟨(some 4), none, .mv (.c (.bool false))⟩] [4])
      .ret)
      .skip))
    (.seq (.rg [⟨(some 55), none, .mv (.t 6)⟩,
        ⟨(some 56), none, .call 2 (.f 15) [(.t 55)]⟩,
        ⟨(some 54), none, .mv (.t 56)⟩,
        ⟨(some 57), none, .ext (.t 54) 0⟩,
        ⟨(some 58), none, .ext (.t 54) 1⟩,
        ⟨(some 8), none, .alloc [(.int .i64 0), (.bool false), (.int .i64 0)]⟩,
        ⟨none, none, .store 3 (.t 8) (.t 57)⟩,
        ⟨(some 9), none, .mv (.t 58)⟩] [1, 5, 6, 7, 8])
    (.seq (.rg [⟨(some 59), none, .fad 0 (.t 8)⟩,
        ⟨(some 60), none, .load false 1 (.t 59) false⟩,
        ⟨(some 61), none, .mv (.t 7)⟩,
        ⟨(some 62), none, .mv (.t 5)⟩,
        ⟨(some 63), none, .bin .sub (.t 61) (.t 62)⟩,
        ⟨(some 64), none, .bin .add (.t 63) (.c (.int .i64 1))⟩,
        ⟨(some 65), none, .mx [(.c (.int .i64 0)), (.t 64)]⟩,
        ⟨(some 66), none, .bin .neq (.t 60) (.t 65)⟩] [1, 5, 6, 7, 66])
    (.cond (.t 66)
      (.seq (.rg [⟨(some 4), none, .mv (.c (.bool false))⟩] [4])
      .ret)
      .skip))))))
  (.rg [⟨(some 24), none, .mv (.t 7)⟩,
      ⟨(some 25), none, .bin .add (.t 24) (.c (.int .i64 1))⟩,
      ⟨(some 7), none, .mv (.t 25)⟩] [1, 5, 6, 7])))
def fn4L0 : Cd := .loop [1, 5, 6, 7] fn4B0
def fn4 : Vs.Fn := ⟨2,
  (.seq (.rg [⟨(some 4), none, .mv (.c (.bool false))⟩] [0, 1])
  (.seq (.seq (.rg [⟨(some 11), none, .call 2 (.f 8) []⟩,
      ⟨(some 12), none, .un .not (.t 11)⟩] [0, 1, 12])
  (.cond (.t 12)
    (.seq (.rg [⟨(some 4), none, .mv (.c (.bool false))⟩] [4])
    .ret)
    .skip))
  (.seq (.rg [⟨(some 13), none, .mv (.t 0)⟩,
      ⟨(some 14), none, .bin .rem (.t 13) (.c (.int .u8 100))⟩,
      ⟨(some 15), none, .cvi .i64 (.t 14)⟩,
      ⟨(some 16), none, .bin .add (.t 15) (.c (.int .i64 1))⟩,
      ⟨(some 5), none, .mv (.t 16)⟩] [1, 5])
  (.seq (.rg [⟨(some 17), none, .mv (.t 5)⟩,
      ⟨(some 18), none, .call 0 (.f 9) [(.t 17)]⟩,
      ⟨(some 6), none, .mv (.t 18)⟩] [1, 5, 6])
  (.seq (.seq (.rg [⟨(some 7), none, .mv (.c (.int .i64 0))⟩] [1, 5, 6, 7])
  (.block 0
    fn4L0))
  (.seq (.rg [⟨(some 67), none, .mv (.t 1)⟩,
      ⟨(some 68), none, .bin .rem (.t 67) (.c (.int .u16 400))⟩,
      ⟨(some 69), none, .cvi .i64 (.t 68)⟩,
      ⟨(some 10), none, .mv (.t 69)⟩] [5, 6, 10])
  (.seq (.rg [⟨(some 70), none, .mv (.t 6)⟩,
      ⟨(some 71), none, .mv (.t 10)⟩,
      ⟨(some 72), none, .mv (.t 5)⟩,
      ⟨(some 73), none, .bin .add (.t 71) (.t 72)⟩,
      ⟨(some 74), none, .call 0 (.f 11) [(.t 70), (.t 73)]⟩] [6, 10])
  (.seq (.rg [⟨(some 75), none, .mv (.t 6)⟩,
      ⟨(some 76), none, .call 2 (.f 14) [(.t 75)]⟩,
      ⟨(some 77), none, .bin .eql (.t 76) (.c (.int .i64 0))⟩,
      ⟨(some 78), none, .mv (.t 77)⟩,
      ⟨(some 79), some (78, true), .mv (.t 6)⟩,
      ⟨(some 80), some (78, true), .mv (.t 10)⟩,
      ⟨(some 81), some (78, true), .call 2 (.f 10) [(.c (.int .i64 1))]⟩,
      ⟨(some 82), some (78, true), .build [(.int .i64 0), (.bool false), (.int .i64 0)] [(0, 1, (.t 80)), (1, 2, (.t 81))]⟩,
      ⟨(some 83), some (78, true), .call 0 (.f 12) [(.t 79), (.t 82)]⟩,
      ⟨(some 84), some (78, true), .bin .eql (.t 83) (.c (.int .i64 152))⟩,
      ⟨(some 85), none, .pick (.t 78) (.t 84) (.c (.bool false))⟩,
      ⟨(some 4), none, .mv (.t 85)⟩] [4])
  .ret)))))))),
  [.t 4]⟩

/- spillway/spillwaylaw12.RingForgets -/
def an5 : Ann := [[0, 1, 2], [2], [0, 1, 2, 18], [6], [0, 1, 2, 26], [6], [0, 1, 7], [0], [0], [0, 1, 7, 8, 9], [0, 1, 7, 8, 9, 10], [0, 1, 7, 8, 9, 10], [0, 1, 7, 8, 9, 10, 38], [0], [0, 1, 7, 8, 9, 10], [0], [0, 1, 7, 8, 9, 10, 52], [6], [0, 1, 7, 8, 9, 10], [1, 7, 8, 9, 11], [1, 7, 8, 9, 11], [1, 7, 8, 9, 11, 56], [1, 7, 8, 9, 11, 12], [0], [1, 7, 8, 9, 11, 12], [0], [1, 7, 8, 9, 11, 12], [0], [0], [1, 7, 8, 9, 11, 86], [6], [1, 7, 8, 9, 11], [0], [1, 7, 8, 9], [0], [7, 8, 9], [2], [7, 8, 9, 13, 14], [2], [7, 8, 9, 13, 14, 15, 16], [2], [2], [2], [2], [2], [2], [6]]
def fn5B0 : Cd :=
  (.seq (.seq (.rg [⟨(some 35), none, .mv (.t 10)⟩,
      ⟨(some 36), none, .mv (.t 0)⟩,
      ⟨(some 37), none, .len false (.t 36)⟩,
      ⟨(some 38), none, .bin .lss (.t 35) (.t 37)⟩] [0, 1, 7, 8, 9, 10, 38])
  (.cond (.t 38)
    .skip
    (.exit 0)))
  (.seq (.block 1
    (.seq (.rg [⟨(some 41), none, .mv (.t 8)⟩,
        ⟨(some 42), none, .mv (.t 10)⟩,
        ⟨(some 43), none, .call 0 (.f 11) [(.t 41), (.t 42)]⟩] [0, 1, 7, 8, 9, 10])
    (.seq (.rg [⟨(some 44), none, .mv (.t 8)⟩,
        ⟨(some 45), none, .mv (.t 10)⟩,
        ⟨(some 46), none, .mv (.t 0)⟩,
        ⟨(some 47), none, .mv (.t 10)⟩,
        ⟨(some 48), none, .iad 2 (.t 46) (.t 47)⟩,
        ⟨(some 49), none, .load true 2 (.t 48) false⟩,
        ⟨(some 50), none, .build [(.int .i64 0), (.bool false), (.int .i64 0)] [(0, 1, (.t 45)), (1, 2, (.t 49))]⟩,
        ⟨(some 51), none, .call 0 (.f 12) [(.t 44), (.t 50)]⟩,
        ⟨(some 52), none, .bin .neq (.t 51) (.c (.int .i64 0))⟩] [0, 1, 7, 8, 9, 10, 52])
    (.cond (.t 52)
      (.seq (.rg [⟨(some 6), none, .mv (.c (.bool false))⟩] [6])
      .ret)
      .skip))))
  (.rg [⟨(some 39), none, .mv (.t 10)⟩,
      ⟨(some 40), none, .bin .add (.t 39) (.c (.int .i64 1))⟩,
      ⟨(some 10), none, .mv (.t 40)⟩] [0, 1, 7, 8, 9, 10])))
def fn5L0 : Cd := .loop [0, 1, 7, 8, 9, 10] fn5B0
def fn5B1 : Cd :=
  (.seq (.seq (.rg [⟨(some 53), none, .mv (.t 11)⟩,
      ⟨(some 54), none, .mv (.t 1)⟩,
      ⟨(some 55), none, .len false (.t 54)⟩,
      ⟨(some 56), none, .bin .lss (.t 53) (.t 55)⟩] [1, 7, 8, 9, 11, 56])
  (.cond (.t 56)
    .skip
    (.exit 2)))
  (.seq (.block 3
    (.seq (.rg [⟨(some 59), none, .mv (.t 11)⟩,
        ⟨(some 60), none, .bin .add (.c (.int .i64 200)) (.t 59)⟩,
        ⟨(some 12), none, .mv (.t 60)⟩] [1, 7, 8, 9, 11, 12])
    (.seq (.rg [⟨(some 61), none, .mv (.t 8)⟩,
        ⟨(some 62), none, .mv (.t 12)⟩,
        ⟨(some 63), none, .call 0 (.f 11) [(.t 61), (.t 62)]⟩] [1, 7, 8, 9, 11, 12])
    (.seq (.rg [⟨(some 64), none, .mv (.t 9)⟩,
        ⟨(some 65), none, .mv (.t 12)⟩,
        ⟨(some 66), none, .call 0 (.f 11) [(.t 64), (.t 65)]⟩] [1, 7, 8, 9, 11, 12])
    (.seq (.rg [⟨(some 67), none, .mv (.t 8)⟩,
        ⟨(some 68), none, .mv (.t 12)⟩,
        ⟨(some 69), none, .mv (.t 1)⟩,
        ⟨(some 70), none, .mv (.t 11)⟩,
        ⟨(some 71), none, .iad 2 (.t 69) (.t 70)⟩,
        ⟨(some 72), none, .load true 2 (.t 71) false⟩,
        ⟨(some 73), none, .build [(.int .i64 0), (.bool false), (.int .i64 0)] [(0, 1, (.t 68)), (1, 2, (.t 72))]⟩,
        ⟨(some 74), none, .call 0 (.f 12) [(.t 67), (.t 73)]⟩,
        ⟨(some 75), none, .bin .neq (.t 74) (.c (.int .i64 0))⟩,
        ⟨(some 76), none, .mv (.t 75)⟩,
        ⟨(some 77), some (76, false), .mv (.t 9)⟩,
        ⟨(some 78), some (76, false), .mv (.t 12)⟩,
        ⟨(some 79), some (76, false), .mv (.t 1)⟩,
        ⟨(some 80), some (76, false), .mv (.t 11)⟩,
        ⟨(some 81), some (76, false), .iad 2 (.t 79) (.t 80)⟩,
        ⟨(some 82), some (76, false), .load true 2 (.t 81) false⟩,
        ⟨(some 83), some (76, false), .build [(.int .i64 0), (.bool false), (.int .i64 0)] [(0, 1, (.t 78)), (1, 2, (.t 82))]⟩,
        ⟨(some 84), some (76, false), .call 0 (.f 12) [(.t 77), (.t 83)]⟩,
        ⟨(some 85), some (76, false), .bin .neq (.t 84) (.c (.int .i64 0))⟩,
        ⟨(some 86), none, .pick (.t 76) (.c (.bool true)) (.t 85)⟩] [1, 7, 8, 9, 11, 86])
    (.cond (.t 86)
      (.seq (.rg [⟨(some 6), none, .mv (.c (.bool false))⟩] [6])
      .ret)
      .skip))))))
  (.rg [⟨(some 57), none, .mv (.t 11)⟩,
      ⟨(some 58), none, .bin .add (.t 57) (.c (.int .i64 1))⟩,
      ⟨(some 11), none, .mv (.t 58)⟩] [1, 7, 8, 9, 11])))
def fn5L1 : Cd := .loop [1, 7, 8, 9, 11] fn5B1
def fn5 : Vs.Fn := ⟨3,
  (.seq (.rg [⟨(some 6), none, .mv (.c (.bool false))⟩] [0, 1, 2])
  (.seq (.seq (.rg [⟨(some 17), none, .call 2 (.f 8) []⟩,
      ⟨(some 18), none, .un .not (.t 17)⟩] [0, 1, 2, 18])
  (.cond (.t 18)
    (.seq (.rg [⟨(some 6), none, .mv (.c (.bool false))⟩] [6])
    .ret)
    .skip))
  (.seq (.seq (.rg [⟨(some 19), none, .mv (.t 0)⟩,
      ⟨(some 20), none, .len false (.t 19)⟩,
      ⟨(some 21), none, .bin .gtr (.t 20) (.c (.int .i64 50))⟩,
      ⟨(some 22), none, .mv (.t 21)⟩,
      ⟨(some 23), some (22, false), .mv (.t 1)⟩,
      ⟨(some 24), some (22, false), .len false (.t 23)⟩,
      ⟨(some 25), some (22, false), .bin .gtr (.t 24) (.c (.int .i64 50))⟩,
      ⟨(some 26), none, .pick (.t 22) (.c (.bool true)) (.t 25)⟩] [0, 1, 2, 26])
  (.cond (.t 26)
    (.seq (.rg [⟨(some 6), none, .mv (.c (.bool true))⟩] [6])
    .ret)
    .skip))
  (.seq (.rg [⟨(some 27), none, .mv (.t 2)⟩,
      ⟨(some 28), none, .bin .rem (.t 27) (.c (.int .u8 60))⟩,
      ⟨(some 29), none, .cvi .i64 (.t 28)⟩,
      ⟨(some 30), none, .bin .add (.t 29) (.c (.int .i64 1))⟩,
      ⟨(some 7), none, .mv (.t 30)⟩] [0, 1, 7])
  (.seq (.rg [⟨(some 31), none, .mv (.t 7)⟩,
      ⟨(some 32), none, .call 0 (.f 9) [(.t 31)]⟩,
      ⟨(some 33), none, .mv (.t 7)⟩,
      ⟨(some 34), none, .call 0 (.f 9) [(.t 33)]⟩,
      ⟨(some 8), none, .mv (.t 32)⟩,
      ⟨(some 9), none, .mv (.t 34)⟩] [0, 1, 7, 8, 9])
  (.seq (.seq (.rg [⟨(some 10), none, .mv (.c (.int .i64 0))⟩] [0, 1, 7, 8, 9, 10])
  (.block 0
    fn5L0))
  (.seq (.seq (.rg [⟨(some 11), none, .mv (.c (.int .i64 0))⟩] [1, 7, 8, 9, 11])
  (.block 2
    fn5L1))
  (.seq (.rg [⟨(some 87), none, .mv (.t 8)⟩,
      ⟨(some 88), none, .mv (.t 1)⟩,
      ⟨(some 89), none, .len false (.t 88)⟩,
      ⟨(some 90), none, .bin .add (.c (.int .i64 200)) (.t 89)⟩,
      ⟨(some 91), none, .call 0 (.f 11) [(.t 87), (.t 90)]⟩] [1, 7, 8, 9])
  (.seq (.rg [⟨(some 92), none, .mv (.t 9)⟩,
      ⟨(some 93), none, .mv (.t 1)⟩,
      ⟨(some 94), none, .len false (.t 93)⟩,
      ⟨(some 95), none, .bin .add (.c (.int .i64 200)) (.t 94)⟩,
      ⟨(some 96), none, .call 0 (.f 11) [(.t 92), (.t 95)]⟩] [7, 8, 9])
  (.seq (.rg [⟨(some 98), none, .mv (.t 8)⟩,
      ⟨(some 99), none, .call 2 (.f 16) [(.t 98)]⟩,
      ⟨(some 97), none, .mv (.t 99)⟩,
      ⟨(some 100), none, .ext (.t 97) 0⟩,
      ⟨(some 101), none, .ext (.t 97) 1⟩,
      ⟨(some 13), none, .alloc [(.bool false), (.int .i64 0)]⟩,
      ⟨none, none, .store 2 (.t 13) (.t 100)⟩,
      ⟨(some 14), none, .mv (.t 101)⟩] [7, 8, 9, 13, 14])
  (.seq (.rg [⟨(some 103), none, .mv (.t 9)⟩,
      ⟨(some 104), none, .call 2 (.f 16) [(.t 103)]⟩,
      ⟨(some 102), none, .mv (.t 104)⟩,
      ⟨(some 105), none, .ext (.t 102) 0⟩,
      ⟨(some 106), none, .ext (.t 102) 1⟩,
      ⟨(some 15), none, .alloc [(.bool false), (.int .i64 0)]⟩,
      ⟨none, none, .store 2 (.t 15) (.t 105)⟩,
      ⟨(some 16), none, .mv (.t 106)⟩] [7, 8, 9, 13, 14, 15, 16])
  (.seq (.rg [⟨(some 107), none, .mv (.t 8)⟩,
      ⟨(some 108), none, .call 2 (.f 18) [(.t 107)]⟩,
      ⟨(some 109), none, .mv (.t 9)⟩,
      ⟨(some 110), none, .call 2 (.f 18) [(.t 109)]⟩,
      ⟨(some 111), none, .call 2 (.f 17) [(.t 108), (.t 110)]⟩,
      ⟨(some 112), none, .mv (.t 111)⟩,
      ⟨(some 113), some (112, true), .mv (.t 8)⟩,
      ⟨(some 114), some (112, true), .call 2 (.f 13) [(.t 113)]⟩,
      ⟨(some 115), some (112, true), .mv (.t 9)⟩,
      ⟨(some 116), some (112, true), .call 2 (.f 13) [(.t 115)]⟩,
      ⟨(some 117), some (112, true), .eqs false [0, 1] (.t 114) (.t 116)⟩,
      ⟨(some 118), none, .pick (.t 112) (.t 117) (.c (.bool false))⟩,
      ⟨(some 119), none, .mv (.t 118)⟩,
      ⟨(some 120), some (119, true), .load true 2 (.t 13) false⟩,
      ⟨(some 121), some (119, true), .load true 2 (.t 15) false⟩,
      ⟨(some 122), some (119, true), .eqs false [0, 1] (.t 120) (.t 121)⟩,
      ⟨(some 123), none, .pick (.t 119) (.t 122) (.c (.bool false))⟩,
      ⟨(some 124), none, .mv (.t 123)⟩,
      ⟨(some 125), some (124, true), .mv (.t 14)⟩,
      ⟨(some 126), some (124, true), .mv (.t 16)⟩,
      ⟨(some 127), some (124, true), .eqb false (.t 125) (.t 126)⟩,
      ⟨(some 128), none, .pick (.t 124) (.t 127) (.c (.bool false))⟩,
      ⟨(some 129), none, .mv (.t 128)⟩,
      ⟨(some 130), some (129, true), .mv (.t 8)⟩,
      ⟨(some 131), some (129, true), .call 2 (.f 14) [(.t 130)]⟩,
      ⟨(some 132), some (129, true), .mv (.t 7)⟩,
      ⟨(some 133), some (129, true), .bin .leq (.t 131) (.t 132)⟩,
      ⟨(some 134), none, .pick (.t 129) (.t 133) (.c (.bool false))⟩,
      ⟨(some 6), none, .mv (.t 134)⟩] [6])
  .ret)))))))))))),
  [.t 6]⟩

/- spillway/spillwaylaw12.RingMeans -/
def an6 : Ann := [[0], [2], [0, 13], [2], [0, 21], [2], [0], [0, 3], [0, 3, 4, 5, 6], [0, 3, 4, 5, 6, 7], [0, 3, 4, 5, 6, 7], [0, 3, 4, 5, 6, 7, 34], [0], [0, 3, 4, 5, 6, 7], [0], [0, 3, 4, 5, 6, 7, 50], [2], [0, 3, 4, 5, 6, 7], [0, 3, 4, 5, 6, 7], [2], [0, 3, 4, 5, 6, 8, 9], [2], [0, 3, 4, 5, 6, 8, 9, 10, 11], [2], [2], [2]]
def fn6B0 : Cd :=
  (.seq (.seq (.rg [⟨(some 31), none, .mv (.t 7)⟩,
      ⟨(some 32), none, .mv (.t 0)⟩,
      ⟨(some 33), none, .len false (.t 32)⟩,
      ⟨(some 34), none, .bin .lss (.t 31) (.t 33)⟩] [0, 3, 4, 5, 6, 7, 34])
  (.cond (.t 34)
    .skip
    (.exit 0)))
  (.seq (.block 1
    (.seq (.rg [⟨(some 37), none, .mv (.t 3)⟩,
        ⟨(some 38), none, .mv (.t 7)⟩,
        ⟨(some 39), none, .call 0 (.f 11) [(.t 37), (.t 38)]⟩] [0, 3, 4, 5, 6, 7])
    (.seq (.seq (.rg [⟨(some 40), none, .mv (.t 3)⟩,
        ⟨(some 41), none, .mv (.t 7)⟩,
        ⟨(some 42), none, .mv (.t 0)⟩,
        ⟨(some 43), none, .mv (.t 7)⟩,
        ⟨(some 44), none, .iad 1 (.t 42) (.t 43)⟩,
        ⟨(some 45), none, .load false 1 (.t 44) false⟩,
        ⟨(some 46), none, .cvi .i64 (.t 45)⟩,
        ⟨(some 47), none, .build [(.bool false), (.int .i64 0)] [(1, 1, (.t 46))]⟩,
        ⟨(some 48), none, .build [(.int .i64 0), (.bool false), (.int .i64 0)] [(0, 1, (.t 41)), (1, 2, (.t 47))]⟩,
        ⟨(some 49), none, .call 0 (.f 12) [(.t 40), (.t 48)]⟩,
        ⟨(some 50), none, .bin .neq (.t 49) (.c (.int .i64 0))⟩] [0, 3, 4, 5, 6, 7, 50])
    (.cond (.t 50)
      (.seq (.rg [⟨(some 2), none, .mv (.c (.bool false))⟩] [2])
      .ret)
      .skip))
    (.rg [⟨(some 51), none, .mv (.t 4)⟩,
        ⟨(some 52), none, .mv (.t 0)⟩,
        ⟨(some 53), none, .mv (.t 7)⟩,
        ⟨(some 54), none, .iad 1 (.t 52) (.t 53)⟩,
        ⟨(some 55), none, .load false 1 (.t 54) false⟩,
        ⟨(some 56), none, .cvi .i64 (.t 55)⟩,
        ⟨(some 57), none, .mn [(.t 51), (.t 56)]⟩,
        ⟨(some 58), none, .mv (.t 5)⟩,
        ⟨(some 59), none, .mv (.t 0)⟩,
        ⟨(some 60), none, .mv (.t 7)⟩,
        ⟨(some 61), none, .iad 1 (.t 59) (.t 60)⟩,
        ⟨(some 62), none, .load false 1 (.t 61) false⟩,
        ⟨(some 63), none, .cvi .i64 (.t 62)⟩,
        ⟨(some 64), none, .mx [(.t 58), (.t 63)]⟩,
        ⟨(some 65), none, .mv (.t 6)⟩,
        ⟨(some 66), none, .mv (.t 0)⟩,
        ⟨(some 67), none, .mv (.t 7)⟩,
        ⟨(some 68), none, .iad 1 (.t 66) (.t 67)⟩,
        ⟨(some 69), none, .load false 1 (.t 68) false⟩,
        ⟨(some 70), none, .cvi .i64 (.t 69)⟩,
        ⟨(some 71), none, .bin .add (.t 65) (.t 70)⟩,
        ⟨(some 4), none, .mv (.t 57)⟩,
        ⟨(some 5), none, .mv (.t 64)⟩,
        ⟨(some 6), none, .mv (.t 71)⟩] [0, 3, 4, 5, 6, 7]))))
  (.rg [⟨(some 35), none, .mv (.t 7)⟩,
      ⟨(some 36), none, .bin .add (.t 35) (.c (.int .i64 1))⟩,
      ⟨(some 7), none, .mv (.t 36)⟩] [0, 3, 4, 5, 6, 7])))
def fn6L0 : Cd := .loop [0, 3, 4, 5, 6, 7] fn6B0
def fn6 : Vs.Fn := ⟨1,
  (.seq (.rg [⟨(some 2), none, .mv (.c (.bool false))⟩] [0])
  (.seq (.seq (.rg [⟨(some 12), none, .call 2 (.f 8) []⟩,
      ⟨(some 13), none, .un .not (.t 12)⟩] [0, 13])
  (.cond (.t 13)
    (.seq (.rg [⟨(some 2), none, .mv (.c (.bool false))⟩] [2])
    .ret)
    .skip))
  (.seq (.seq (.rg [⟨(some 14), none, .mv (.t 0)⟩,
      ⟨(some 15), none, .len false (.t 14)⟩,
      ⟨(some 16), none, .bin .eql (.t 15) (.c (.int .i64 0))⟩,
      ⟨(some 17), none, .mv (.t 16)⟩,
      ⟨(some 18), some (17, false), .mv (.t 0)⟩,
      ⟨(some 19), some (17, false), .len false (.t 18)⟩,
      ⟨(some 20), some (17, false), .bin .gtr (.t 19) (.c (.int .i64 90))⟩,
      ⟨(some 21), none, .pick (.t 17) (.c (.bool true)) (.t 20)⟩] [0, 21])
  (.cond (.t 21)
    (.seq (.rg [⟨(some 2), none, .mv (.c (.bool true))⟩] [2])
    .ret)
    .skip))
  (.seq (.rg [⟨(some 22), none, .call 0 (.f 9) [(.c (.int .i64 100))]⟩,
      ⟨(some 3), none, .mv (.t 22)⟩] [0, 3])
  (.seq (.rg [⟨(some 23), none, .mv (.t 0)⟩,
      ⟨(some 24), none, .iad 1 (.t 23) (.c (.int .i64 0))⟩,
      ⟨(some 25), none, .load false 1 (.t 24) false⟩,
      ⟨(some 26), none, .cvi .i64 (.t 25)⟩,
      ⟨(some 27), none, .mv (.t 0)⟩,
      ⟨(some 28), none, .iad 1 (.t 27) (.c (.int .i64 0))⟩,
      ⟨(some 29), none, .load false 1 (.t 28) false⟩,
      ⟨(some 30), none, .cvi .i64 (.t 29)⟩,
      ⟨(some 4), none, .mv (.t 26)⟩,
      ⟨(some 5), none, .mv (.t 30)⟩,
      ⟨(some 6), none, .mv (.c (.int .i64 0))⟩] [0, 3, 4, 5, 6])
  (.seq (.seq (.rg [⟨(some 7), none, .mv (.c (.int .i64 0))⟩] [0, 3, 4, 5, 6, 7])
  (.block 0
    fn6L0))
  (.seq (.rg [⟨(some 73), none, .mv (.t 3)⟩,
      ⟨(some 74), none, .call 2 (.f 16) [(.t 73)]⟩,
      ⟨(some 72), none, .mv (.t 74)⟩,
      ⟨(some 75), none, .ext (.t 72) 0⟩,
      ⟨(some 76), none, .ext (.t 72) 1⟩,
      ⟨(some 8), none, .alloc [(.bool false), (.int .i64 0)]⟩,
      ⟨none, none, .store 2 (.t 8) (.t 75)⟩,
      ⟨(some 9), none, .mv (.t 76)⟩] [0, 3, 4, 5, 6, 8, 9])
  (.seq (.rg [⟨(some 78), none, .mv (.t 3)⟩,
      ⟨(some 79), none, .call 2 (.f 19) [(.t 78)]⟩,
      ⟨(some 77), none, .mv (.t 79)⟩,
      ⟨(some 80), none, .ext (.t 77) 0⟩,
      ⟨(some 81), none, .ext (.t 77) 1⟩,
      ⟨(some 10), none, .alloc [(.bool false), (.int .i64 0)]⟩,
      ⟨none, none, .store 2 (.t 10) (.t 80)⟩,
      ⟨(some 11), none, .mv (.t 81)⟩] [0, 3, 4, 5, 6, 8, 9, 10, 11])
  (.seq (.rg [⟨(some 82), none, .mv (.t 9)⟩,
      ⟨(some 83), none, .mv (.t 82)⟩,
      ⟨(some 84), some (83, true), .fad 1 (.t 8)⟩,
      ⟨(some 85), some (83, true), .load false 1 (.t 84) false⟩,
      ⟨(some 86), some (83, true), .mv (.t 4)⟩,
      ⟨(some 87), some (83, true), .bin .geq (.t 85) (.t 86)⟩,
      ⟨(some 88), none, .pick (.t 83) (.t 87) (.c (.bool false))⟩,
      ⟨(some 89), none, .mv (.t 88)⟩,
      ⟨(some 90), some (89, true), .fad 1 (.t 8)⟩,
      ⟨(some 91), some (89, true), .load false 1 (.t 90) false⟩,
      ⟨(some 92), some (89, true), .mv (.t 5)⟩,
      ⟨(some 93), some (89, true), .bin .leq (.t 91) (.t 92)⟩,
      ⟨(some 94), none, .pick (.t 89) (.t 93) (.c (.bool false))⟩,
      ⟨(some 95), none, .mv (.t 94)⟩,
      ⟨(some 96), some (95, true), .fad 1 (.t 8)⟩,
      ⟨(some 97), some (95, true), .load false 1 (.t 96) false⟩,
      ⟨(some 98), some (95, true), .mv (.t 6)⟩,
      ⟨(some 99), some (95, true), .mv (.t 0)⟩,
      ⟨(some 100), some (95, true), .len false (.t 99)⟩,
      ⟨(some 101), some (95, true), .bin .quo (.t 98) (.t 100)⟩,
      ⟨(some 102), some (95, true), .bin .eql (.t 97) (.t 101)⟩,
      ⟨(some 103), none, .pick (.t 95) (.t 102) (.c (.bool false))⟩,
      ⟨(some 104), none, .mv (.t 103)⟩,
      ⟨(some 105), some (104, true), .mv (.t 3)⟩,
      ⟨(some 106), some (104, true), .call 2 (.f 13) [(.t 105)]⟩,
      ⟨(some 107), some (104, true), .mv (.t 6)⟩,
      ⟨(some 108), some (104, true), .build [(.bool false), (.int .i64 0)] [(1, 1, (.t 107))]⟩,
      ⟨(some 109), some (104, true), .eqs false [0, 1] (.t 106) (.t 108)⟩,
      ⟨(some 110), none, .pick (.t 104) (.t 109) (.c (.bool false))⟩,
      ⟨(some 111), none, .mv (.t 110)⟩,
      ⟨(some 112), some (111, true), .mv (.t 11)⟩,
      ⟨(some 113), some (111, true), .mv (.t 0)⟩,
      ⟨(some 114), some (111, true), .len false (.t 113)⟩,
      ⟨(some 115), some (111, true), .bin .gtr (.t 114) (.c (.int .i64 1))⟩,
      ⟨(some 116), some (111, true), .eqb false (.t 112) (.t 115)⟩,
      ⟨(some 117), none, .pick (.t 111) (.t 116) (.c (.bool false))⟩,
      ⟨(some 118), none, .mv (.t 117)⟩,
      ⟨(some 119), some (118, true), .mv (.t 11)⟩,
      ⟨(some 120), some (118, true), .un .not (.t 119)⟩,
      ⟨(some 121), some (118, true), .mv (.t 120)⟩,
      ⟨(some 122), some (121, false), .load true 2 (.t 10) false⟩,
      ⟨(some 123), some (121, false), .mv (.t 0)⟩,
      ⟨(some 124), some (121, false), .mv (.t 0)⟩,
      ⟨(some 125), some (121, false), .len false (.t 124)⟩,
      ⟨(some 126), some (121, false), .bin .sub (.t 125) (.c (.int .i64 1))⟩,
      ⟨(some 127), some (121, false), .iad 1 (.t 123) (.t 126)⟩,
      ⟨(some 128), some (121, false), .load false 1 (.t 127) false⟩,
      ⟨(some 129), some (121, false), .cvi .i64 (.t 128)⟩,
      ⟨(some 130), some (121, false), .build [(.bool false), (.int .i64 0)] [(1, 1, (.t 129))]⟩,
      ⟨(some 131), some (121, false), .mv (.t 0)⟩,
      ⟨(some 132), some (121, false), .iad 1 (.t 131) (.c (.int .i64 0))⟩,
      ⟨(some 133), some (121, false), .load false 1 (.t 132) false⟩,
      ⟨(some 134), some (121, false), .cvi .i64 (.t 133)⟩,
      ⟨(some 135), some (121, false), .build [(.bool false), (.int .i64 0)] [(1, 1, (.t 134))]⟩,
      ⟨(some 136), some (121, false), .call 2 (.f 20) [(.t 130), (.t 135)]⟩,
      ⟨(some 137), some (121, false), .eqs false [0, 1] (.t 122) (.t 136)⟩,
      ⟨(some 138), some (118, true), .pick (.t 121) (.c (.bool true)) (.t 137)⟩,
      ⟨(some 139), none, .pick (.t 118) (.t 138) (.c (.bool false))⟩,
      ⟨(some 2), none, .mv (.t 139)⟩] [2])
  .ret))))))))),
  [.t 2]⟩

/- spillway/spillwaylaw12.RingPlays -/
def an7 : Ann := [[0, 1], [2], [0, 1, 9], [4], [0, 1, 12], [4], [0], [1, 5, 6], [1, 5, 6, 7], [1, 5, 6, 7], [1, 5, 6, 7, 23], [1, 5, 6, 7, 30], [0], [1, 5, 6, 7], [0], [1, 5, 6, 7], [0], [0], [1, 5, 6, 7, 71], [4], [2], [1, 5, 6, 7, 78], [4], [1, 5, 6, 7], [4]]
def fn7B0 : Cd :=
  (.seq (.seq (.rg [⟨(some 20), none, .mv (.t 7)⟩,
      ⟨(some 21), none, .mv (.t 1)⟩,
      ⟨(some 22), none, .len false (.t 21)⟩,
      ⟨(some 23), none, .bin .lss (.t 20) (.t 22)⟩] [1, 5, 6, 7, 23])
  (.cond (.t 23)
    .skip
    (.exit 0)))
  (.seq (.block 1
    (.seq (.seq (.rg [⟨(some 26), none, .mv (.t 1)⟩,
        ⟨(some 27), none, .mv (.t 7)⟩,
        ⟨(some 28), none, .iad 4 (.t 26) (.t 27)⟩,
        ⟨(some 29), none, .fad 0 (.t 28)⟩,
        ⟨(some 30), none, .load false 1 (.t 29) false⟩] [1, 5, 6, 7, 30])
    (.cond (.t 30)
      (.seq (.rg [⟨(some 31), none, .mv (.t 5)⟩,
          ⟨(some 32), none, .mv (.t 1)⟩,
          ⟨(some 33), none, .mv (.t 7)⟩,
          ⟨(some 34), none, .iad 4 (.t 32) (.t 33)⟩,
          ⟨(some 35), none, .fad 1 (.t 34)⟩,
          ⟨(some 36), none, .load false 1 (.t 35) false⟩,
          ⟨(some 37), none, .call 0 (.f 11) [(.t 31), (.t 36)]⟩] [1, 5, 6, 7])
      (.rg [⟨(some 38), none, .mv (.t 6)⟩,
          ⟨(some 39), none, .mv (.t 1)⟩,
          ⟨(some 40), none, .mv (.t 7)⟩,
          ⟨(some 41), none, .iad 4 (.t 39) (.t 40)⟩,
          ⟨(some 42), none, .fad 1 (.t 41)⟩,
          ⟨(some 43), none, .load false 1 (.t 42) false⟩,
          ⟨(some 44), none, .call 0 (.f 21) [(.t 38), (.t 43)]⟩] [1, 5, 6, 7]))
      (.seq (.rg [⟨(some 45), none, .mv (.t 5)⟩,
          ⟨(some 46), none, .mv (.t 1)⟩,
          ⟨(some 47), none, .mv (.t 7)⟩,
          ⟨(some 48), none, .iad 4 (.t 46) (.t 47)⟩,
          ⟨(some 49), none, .fad 1 (.t 48)⟩,
          ⟨(some 50), none, .load false 1 (.t 49) false⟩,
          ⟨(some 51), none, .mv (.t 1)⟩,
          ⟨(some 52), none, .mv (.t 7)⟩,
          ⟨(some 53), none, .iad 4 (.t 51) (.t 52)⟩,
          ⟨(some 54), none, .fad 2 (.t 53)⟩,
          ⟨(some 55), none, .load true 2 (.t 54) false⟩,
          ⟨(some 56), none, .build [(.int .i64 0), (.bool false), (.int .i64 0)] [(0, 1, (.t 50)), (1, 2, (.t 55))]⟩,
          ⟨(some 57), none, .call 0 (.f 12) [(.t 45), (.t 56)]⟩,
          ⟨(some 58), none, .mv (.t 6)⟩,
          ⟨(some 59), none, .mv (.t 1)⟩,
          ⟨(some 60), none, .mv (.t 7)⟩,
          ⟨(some 61), none, .iai 4 (.t 59) (.t 60)⟩,
          ⟨(some 62), none, .fad 1 (.t 61)⟩,
          ⟨(some 63), none, .load false 1 (.t 62) true⟩,
          ⟨(some 64), none, .mv (.t 1)⟩,
          ⟨(some 65), none, .mv (.t 7)⟩,
          ⟨(some 66), none, .iai 4 (.t 64) (.t 65)⟩,
          ⟨(some 67), none, .fad 2 (.t 66)⟩,
          ⟨(some 68), none, .load true 2 (.t 67) true⟩,
          ⟨(some 69), none, .build [(.int .i64 0), (.bool false), (.int .i64 0)] [(0, 1, (.t 63)), (1, 2, (.t 68))]⟩,
          ⟨(some 70), none, .call 0 (.f 22) [(.t 58), (.t 69)]⟩,
          ⟨(some 71), none, .bin .neq (.t 57) (.t 70)⟩] [1, 5, 6, 7, 71])
      (.cond (.t 71)
        (.seq (.rg [⟨(some 4), none, .mv (.c (.bool false))⟩] [4])
        .ret)
        .skip))))
    (.seq (.rg [⟨(some 72), none, .mv (.t 5)⟩,
        ⟨(some 73), none, .mv (.t 6)⟩,
        ⟨(some 74), none, .nilck (.t 73)⟩,
        ⟨(some 75), none, .fad 3 (.t 74)⟩,
        ⟨(some 76), none, .load false 1 (.t 75) false⟩,
        ⟨(some 77), none, .call 2 (.f 23) [(.t 72), (.t 76)]⟩,
        ⟨(some 78), none, .un .not (.t 77)⟩] [1, 5, 6, 7, 78])
    (.cond (.t 78)
      (.seq (.rg [⟨(some 4), none, .mv (.c (.bool false))⟩] [4])
      .ret)
      .skip))))
  (.rg [⟨(some 24), none, .mv (.t 7)⟩,
      ⟨(some 25), none, .bin .add (.t 24) (.c (.int .i64 1))⟩,
      ⟨(some 7), none, .mv (.t 25)⟩] [1, 5, 6, 7])))
def fn7L0 : Cd := .loop [1, 5, 6, 7] fn7B0
def fn7 : Vs.Fn := ⟨2,
  (.seq (.rg [⟨(some 4), none, .mv (.c (.bool false))⟩] [0, 1])
  (.seq (.seq (.rg [⟨(some 8), none, .call 2 (.f 8) []⟩,
      ⟨(some 9), none, .un .not (.t 8)⟩] [0, 1, 9])
  (.cond (.t 9)
    (.seq (.rg [⟨(some 4), none, .mv (.c (.bool false))⟩] [4])
    .ret)
    .skip))
  (.seq (.seq (.rg [⟨(some 10), none, .mv (.t 1)⟩,
      ⟨(some 11), none, .len false (.t 10)⟩,
      ⟨(some 12), none, .bin .gtr (.t 11) (.c (.int .i64 150))⟩] [0, 1, 12])
  (.cond (.t 12)
    (.seq (.rg [⟨(some 4), none, .mv (.c (.bool true))⟩] [4])
    .ret)
    .skip))
  (.seq (.rg [⟨(some 13), none, .mv (.t 0)⟩,
      ⟨(some 14), none, .call 0 (.f 9) [(.t 13)]⟩,
      ⟨(some 15), none, .mv (.t 0)⟩,
      ⟨(some 16), none, .mn [(.t 15), (.c (.int .i64 100))]⟩,
      ⟨(some 17), none, .mx [(.c (.int .i64 1)), (.t 16)]⟩,
      ⟨(some 18), none, .build [(.int .i64 0), (.int .i64 0), (.int .i64 0), .nsl] [(0, 1, (.t 17)), (2, 1, (.c (.int .i64 (-1))))]⟩,
      ⟨(some 19), none, .box 4 (.t 18)⟩,
      ⟨(some 5), none, .mv (.t 14)⟩,
      ⟨(some 6), none, .mv (.t 19)⟩] [1, 5, 6])
  (.seq (.seq (.rg [⟨(some 7), none, .mv (.c (.int .i64 0))⟩] [1, 5, 6, 7])
  (.block 0
    fn7L0))
  (.seq (.rg [⟨(some 4), none, .mv (.c (.bool true))⟩] [4])
  .ret)))))),
  [.t 4]⟩

/- spillway/spillwaylaw12.known -/
def an8 : Ann := [[], [0], [1], [1, 9], [0], [0], [1], [2], [0], [2], [0], [2], [0], [1, 2, 3, 4], [2], [1, 2, 3, 4, 5, 6], [2], [2], [2], [0]]
def fn8 : Vs.Fn := ⟨0,
  (.seq (.rg [⟨(some 0), none, .mv (.c (.bool false))⟩] [])
  (.seq (.rg [⟨(some 7), none, .call 0 (.f 9) [(.c (.int .i64 5))]⟩,
      ⟨(some 1), none, .mv (.t 7)⟩] [1])
  (.seq (.seq (.rg [⟨(some 8), none, .mv (.t 1)⟩,
      ⟨(some 9), none, .eqn 0 false (.t 8)⟩] [1, 9])
  (.cond (.t 9)
    (.seq (.rg [⟨(some 0), none, .mv (.c (.bool false))⟩] [0])
    .ret)
    .skip))
  (.seq (.rg [⟨(some 10), none, .mv (.t 1)⟩,
      ⟨(some 11), none, .call 0 (.f 11) [(.t 10), (.c (.int .i64 8))]⟩] [1])
  (.seq (.rg [⟨(some 12), none, .mv (.t 1)⟩,
      ⟨(some 13), none, .call 2 (.f 10) [(.c (.int .i64 1))]⟩,
      ⟨(some 14), none, .build [(.int .i64 0), (.bool false), (.int .i64 0)] [(0, 1, (.c (.int .i64 3))), (1, 2, (.t 13))]⟩,
      ⟨(some 15), none, .call 0 (.f 12) [(.t 12), (.t 14)]⟩,
      ⟨(some 16), none, .mv (.t 1)⟩,
      ⟨(some 17), none, .call 2 (.f 10) [(.c (.int .i64 2))]⟩,
      ⟨(some 18), none, .build [(.int .i64 0), (.bool false), (.int .i64 0)] [(0, 1, (.c (.int .i64 7))), (1, 2, (.t 17))]⟩,
      ⟨(some 19), none, .call 0 (.f 12) [(.t 16), (.t 18)]⟩,
      ⟨(some 20), none, .mv (.t 1)⟩,
      ⟨(some 21), none, .call 2 (.f 10) [(.c (.int .i64 2))]⟩,
      ⟨(some 22), none, .build [(.int .i64 0), (.bool false), (.int .i64 0)] [(0, 1, (.c (.int .i64 7))), (1, 2, (.t 21))]⟩,
      ⟨(some 23), none, .call 0 (.f 12) [(.t 20), (.t 22)]⟩,
      ⟨(some 2), none, .mv (.t 15)⟩,
      ⟨(some 3), none, .mv (.t 19)⟩,
      ⟨(some 4), none, .mv (.t 23)⟩] [1, 2, 3, 4])
  (.seq (.rg [⟨(some 25), none, .mv (.t 1)⟩,
      ⟨(some 26), none, .call 2 (.f 24) [(.t 25)]⟩,
      ⟨(some 24), none, .mv (.t 26)⟩,
      ⟨(some 27), none, .ext (.t 24) 0⟩,
      ⟨(some 28), none, .ext (.t 24) 1⟩,
      ⟨(some 5), none, .alloc [(.int .i64 0), (.bool false), (.int .i64 0)]⟩,
      ⟨none, none, .store 3 (.t 5) (.t 27)⟩,
      ⟨(some 6), none, .mv (.t 28)⟩] [1, 2, 3, 4, 5, 6])
  (.seq (.rg [⟨(some 29), none, .mv (.t 2)⟩,
      ⟨(some 30), none, .bin .eql (.t 29) (.c (.int .i64 152))⟩,
      ⟨(some 31), none, .mv (.t 30)⟩,
      ⟨(some 32), some (31, true), .mv (.t 3)⟩,
      ⟨(some 33), some (31, true), .bin .eql (.t 32) (.c (.int .i64 0))⟩,
      ⟨(some 34), none, .pick (.t 31) (.t 33) (.c (.bool false))⟩,
      ⟨(some 35), none, .mv (.t 34)⟩,
      ⟨(some 36), some (35, true), .mv (.t 4)⟩,
      ⟨(some 37), some (35, true), .bin .eql (.t 36) (.c (.int .i64 150))⟩,
      ⟨(some 38), none, .pick (.t 35) (.t 37) (.c (.bool false))⟩,
      ⟨(some 39), none, .mv (.t 38)⟩,
      ⟨(some 40), some (39, true), .mv (.t 1)⟩,
      ⟨(some 41), some (39, true), .call 2 (.f 14) [(.t 40)]⟩,
      ⟨(some 42), some (39, true), .bin .eql (.t 41) (.c (.int .i64 1))⟩,
      ⟨(some 43), none, .pick (.t 39) (.t 42) (.c (.bool false))⟩,
      ⟨(some 44), none, .mv (.t 43)⟩,
      ⟨(some 45), some (44, true), .mv (.t 6)⟩,
      ⟨(some 46), none, .pick (.t 44) (.t 45) (.c (.bool false))⟩,
      ⟨(some 47), none, .mv (.t 46)⟩,
      ⟨(some 48), some (47, true), .fad 0 (.t 5)⟩,
      ⟨(some 49), some (47, true), .load false 1 (.t 48) false⟩,
      ⟨(some 50), some (47, true), .bin .eql (.t 49) (.c (.int .i64 7))⟩,
      ⟨(some 51), none, .pick (.t 47) (.t 50) (.c (.bool false))⟩,
      ⟨(some 52), none, .mv (.t 51)⟩,
      ⟨(some 53), some (52, true), .mv (.t 1)⟩,
      ⟨(some 54), some (52, true), .call 2 (.f 13) [(.t 53)]⟩,
      ⟨(some 55), some (52, true), .call 2 (.f 10) [(.c (.int .i64 2))]⟩,
      ⟨(some 56), some (52, true), .eqs false [0, 1] (.t 54) (.t 55)⟩,
      ⟨(some 57), none, .pick (.t 52) (.t 56) (.c (.bool false))⟩,
      ⟨(some 0), none, .mv (.t 57)⟩] [0])
  .ret))))))),
  [.t 0]⟩

/- spillway/ring.New -/
def an9 : Ann := [[0], [2], [2]]
def fn9 : Vs.Fn := ⟨1,
  (.seq (.rg [⟨(some 2), none, .mv (.c (.pointer none))⟩] [0])
  (.seq (.rg [⟨(some 3), none, .mv (.t 0)⟩,
      ⟨(some 4), none, .call 2 (.f 25) [(.t 3)]⟩,
      ⟨(some 5), none, .build [(.int .i64 0), (.int .i64 0), (.int .i64 0), (.int .u64 0), (.int .u64 0), (.int .i64 0), .nsl] [(0, 3, (.t 4))]⟩,
      ⟨(some 6), none, .box 7 (.t 5)⟩,
      ⟨(some 2), none, .mv (.t 6)⟩] [2])
  .ret)),
  [.t 2]⟩

/- spillway/fix.Of -/
def an10 : Ann := [[0, 2], [2], [2], [2]]
def fn10 : Vs.Fn := ⟨1,
  (.seq (.rg [⟨(some 2), none, .alloc [(.bool false), (.int .i64 0)]⟩] [0, 2])
  (.seq (.rg [⟨(some 3), none, .mv (.t 0)⟩,
      ⟨(some 4), none, .bin .lss (.t 3) (.c (.int .i64 0))⟩,
      ⟨(some 5), none, .mv (.t 0)⟩,
      ⟨(some 6), none, .call 2 (.f 27) [(.t 5)]⟩,
      ⟨(some 7), none, .call 2 (.f 26) [(.t 4), (.t 6), (.c (.int .u64 1000000)), (.c (.int .u64 1))]⟩,
      ⟨none, none, .store 2 (.t 2) (.t 7)⟩] [2])
  .ret)),
  [.cell 2 true 2]⟩

/- (*spillway/ring.Ring).Advance -/
def an11 : Ann := [[0], [0], [0], [2], [0, 27], [0], [0], [0]]
def fn11B0 : Cd :=
  (.seq (.seq (.rg [⟨(some 9), none, .mv (.t 0)⟩,
      ⟨(some 10), none, .nilck (.t 9)⟩,
      ⟨(some 11), none, .fad 6 (.t 10)⟩,
      ⟨(some 12), none, .load false 1 (.t 11) false⟩,
      ⟨(some 13), none, .len false (.t 12)⟩,
      ⟨(some 14), none, .bin .gtr (.t 13) (.c (.int .i64 0))⟩,
      ⟨(some 15), none, .mv (.t 14)⟩,
      ⟨(some 16), some (15, true), .mv (.t 0)⟩,
      ⟨(some 17), some (15, true), .nilck (.t 16)⟩,
      ⟨(some 18), some (15, true), .fad 0 (.t 17)⟩,
      ⟨(some 19), some (15, true), .mv (.t 0)⟩,
      ⟨(some 20), some (15, true), .nilck (.t 19)⟩,
      ⟨(some 21), some (15, true), .fad 6 (.t 20)⟩,
      ⟨(some 22), some (15, true), .load false 1 (.t 21) false⟩,
      ⟨(some 23), some (15, true), .iad 3 (.t 22) (.c (.int .i64 0))⟩,
      ⟨(some 24), some (15, true), .fad 0 (.t 23)⟩,
      ⟨(some 25), some (15, true), .load false 1 (.t 24) false⟩,
      ⟨(some 26), some (15, true), .call 2 (.f 29) [(.t 18), (.t 25)]⟩,
      ⟨(some 27), none, .pick (.t 15) (.t 26) (.c (.bool false))⟩] [0, 27])
  (.cond (.t 27)
    .skip
    (.exit 0)))
  (.block 1
    (.seq (.rg [⟨(some 28), none, .mv (.t 0)⟩,
        ⟨(some 29), none, .nilck (.t 28)⟩,
        ⟨(some 30), none, .fad 3 (.t 29)⟩,
        ⟨(some 31), none, .mv (.t 0)⟩,
        ⟨(some 32), none, .nilck (.t 31)⟩,
        ⟨(some 33), none, .fad 6 (.t 32)⟩,
        ⟨(some 34), none, .load false 1 (.t 33) false⟩,
        ⟨(some 35), none, .iad 3 (.t 34) (.c (.int .i64 0))⟩,
        ⟨(some 36), none, .fad 1 (.t 35)⟩,
        ⟨(some 37), none, .load true 2 (.t 36) false⟩,
        ⟨(some 38), none, .call 0 (.f 30) [(.t 30), (.t 37), (.c (.bool true))]⟩] [0])
    (.rg [⟨(some 39), none, .mv (.t 0)⟩,
        ⟨(some 40), none, .mv (.t 0)⟩,
        ⟨(some 41), none, .nilck (.t 40)⟩,
        ⟨(some 42), none, .fad 6 (.t 41)⟩,
        ⟨(some 43), none, .load false 1 (.t 42) false⟩,
        ⟨(some 44), none, .slsl 3 (.t 43) (some (.c (.int .i64 1))) none none⟩,
        ⟨(some 45), none, .nilck (.t 39)⟩,
        ⟨(some 46), none, .fad 6 (.t 45)⟩,
        ⟨none, none, .store 1 (.t 46) (.t 44)⟩] [0]))))
def fn11L0 : Cd := .loop [0] fn11B0
def fn11 : Vs.Fn := ⟨2,
  (.seq (.rg [⟨(some 4), none, .mv (.t 0)⟩,
      ⟨(some 5), none, .nilck (.t 4)⟩,
      ⟨(some 6), none, .fad 0 (.t 5)⟩,
      ⟨(some 7), none, .mv (.t 1)⟩,
      ⟨(some 8), none, .call 0 (.f 28) [(.t 6), (.t 7)]⟩] [0])
  (.block 0
    fn11L0)),
  []⟩

/- (*spillway/ring.Ring).Add -/
def an12 : Ann := [[0, 3], [0], [0, 3, 5], [0, 3, 5, 13], [4], [2], [0, 3], [0, 3], [0], [], [4]]
def fn12 : Vs.Fn := ⟨2,
  (.seq (.rg [⟨(some 3), none, .box 3 (.t 1)⟩,
      ⟨(some 4), none, .mv (.c (.int .i64 0))⟩] [0, 3])
  (.seq (.seq (.rg [⟨(some 6), none, .mv (.t 0)⟩,
      ⟨(some 7), none, .nilck (.t 6)⟩,
      ⟨(some 8), none, .fad 0 (.t 7)⟩,
      ⟨(some 9), none, .fad 0 (.t 3)⟩,
      ⟨(some 10), none, .load false 1 (.t 9) false⟩,
      ⟨(some 11), none, .call 0 (.f 31) [(.t 8), (.t 10)]⟩,
      ⟨(some 5), none, .mv (.t 11)⟩] [0, 3, 5])
  (.seq (.rg [⟨(some 12), none, .mv (.t 5)⟩,
      ⟨(some 13), none, .bin .neq (.t 12) (.c (.int .i64 0))⟩] [0, 3, 5, 13])
  (.cond (.t 13)
    (.seq (.rg [⟨(some 14), none, .mv (.t 5)⟩,
        ⟨(some 4), none, .mv (.t 14)⟩] [4])
    .ret)
    .skip)))
  (.seq (.rg [⟨(some 15), none, .fad 1 (.t 3)⟩,
      ⟨(some 16), none, .load true 2 (.t 15) false⟩,
      ⟨(some 17), none, .call 2 (.f 32) [(.t 16)]⟩,
      ⟨(some 18), none, .fad 1 (.t 3)⟩,
      ⟨none, none, .store 2 (.t 18) (.t 17)⟩] [0, 3])
  (.seq (.rg [⟨(some 19), none, .mv (.t 0)⟩,
      ⟨(some 20), none, .mv (.t 0)⟩,
      ⟨(some 21), none, .nilck (.t 20)⟩,
      ⟨(some 22), none, .fad 6 (.t 21)⟩,
      ⟨(some 23), none, .load false 1 (.t 22) false⟩,
      ⟨(some 24), none, .load true 3 (.t 3) false⟩,
      ⟨(some 25), none, .bslice 1 3 [(.int .i64 0), (.bool false), (.int .i64 0)] [(0, (.t 24))]⟩,
      ⟨(some 26), none, .app 3 24 (.t 23) (.t 25)⟩,
      ⟨(some 27), none, .nilck (.t 19)⟩,
      ⟨(some 28), none, .fad 6 (.t 27)⟩,
      ⟨none, none, .store 1 (.t 28) (.t 26)⟩] [0, 3])
  (.seq (.rg [⟨(some 29), none, .mv (.t 0)⟩,
      ⟨(some 30), none, .nilck (.t 29)⟩,
      ⟨(some 31), none, .fad 3 (.t 30)⟩,
      ⟨(some 32), none, .fad 1 (.t 3)⟩,
      ⟨(some 33), none, .load true 2 (.t 32) false⟩,
      ⟨(some 34), none, .call 0 (.f 30) [(.t 31), (.t 33), (.c (.bool false))]⟩] [])
  (.seq (.rg [⟨(some 4), none, .mv (.c (.int .i64 0))⟩] [4])
  .ret)))))),
  [.t 4]⟩

/- (*spillway/ring.Ring).Sum -/
def an13 : Ann := [[0, 2], [2], [2]]
def fn13 : Vs.Fn := ⟨1,
  (.seq (.rg [⟨(some 2), none, .alloc [(.bool false), (.int .i64 0)]⟩] [0, 2])
  (.seq (.rg [⟨(some 3), none, .mv (.t 0)⟩,
      ⟨(some 4), none, .nilck (.t 3)⟩,
      ⟨(some 5), none, .fad 3 (.t 4)⟩,
      ⟨(some 6), none, .call 2 (.f 33) [(.t 5)]⟩,
      ⟨none, none, .store 2 (.t 2) (.t 6)⟩] [2])
  .ret)),
  [.cell 2 true 2]⟩

/- (*spillway/ring.Ring).Len -/
def an14 : Ann := [[0], [2]]
def fn14 : Vs.Fn := ⟨1,
  (.seq (.rg [⟨(some 2), none, .mv (.c (.int .i64 0))⟩] [0])
  (.seq (.rg [⟨(some 3), none, .mv (.t 0)⟩,
      ⟨(some 4), none, .nilck (.t 3)⟩,
      ⟨(some 5), none, .fad 6 (.t 4)⟩,
      ⟨(some 6), none, .load false 1 (.t 5) false⟩,
      ⟨(some 7), none, .len false (.t 6)⟩,
      ⟨(some 2), none, .mv (.t 7)⟩] [2])
  .ret)),
  [.t 2]⟩

/- (*spillway/ring.Ring).First -/
def an15 : Ann := [[0, 2], [0, 2, 9], [2, 3], [2, 3]]
def fn15 : Vs.Fn := ⟨1,
  (.seq (.rg [⟨(some 2), none, .alloc [(.int .i64 0), (.bool false), (.int .i64 0)]⟩,
      ⟨(some 3), none, .mv (.c (.bool false))⟩] [0, 2])
  (.seq (.seq (.rg [⟨(some 4), none, .mv (.t 0)⟩,
      ⟨(some 5), none, .nilck (.t 4)⟩,
      ⟨(some 6), none, .fad 6 (.t 5)⟩,
      ⟨(some 7), none, .load false 1 (.t 6) false⟩,
      ⟨(some 8), none, .len false (.t 7)⟩,
      ⟨(some 9), none, .bin .eql (.t 8) (.c (.int .i64 0))⟩] [0, 2, 9])
  (.cond (.t 9)
    (.seq (.rg [⟨(some 10), none, .build [(.int .i64 0), (.bool false), (.int .i64 0)] []⟩,
        ⟨none, none, .store 3 (.t 2) (.t 10)⟩,
        ⟨(some 3), none, .mv (.c (.bool false))⟩] [2, 3])
    .ret)
    .skip))
  (.seq (.rg [⟨(some 11), none, .mv (.t 0)⟩,
      ⟨(some 12), none, .nilck (.t 11)⟩,
      ⟨(some 13), none, .fad 6 (.t 12)⟩,
      ⟨(some 14), none, .load false 1 (.t 13) false⟩,
      ⟨(some 15), none, .iad 3 (.t 14) (.c (.int .i64 0))⟩,
      ⟨(some 16), none, .load true 3 (.t 15) false⟩,
      ⟨none, none, .store 3 (.t 2) (.t 16)⟩,
      ⟨(some 3), none, .mv (.c (.bool true))⟩] [2, 3])
  .ret))),
  [.cell 2 true 3, .t 3]⟩

/- (*spillway/ring.Ring).Avg -/
def an16 : Ann := [[0, 2], [0, 2, 9], [2, 3], [2], [2], [2], [2, 3]]
def fn16 : Vs.Fn := ⟨1,
  (.seq (.rg [⟨(some 2), none, .alloc [(.bool false), (.int .i64 0)]⟩,
      ⟨(some 3), none, .mv (.c (.bool false))⟩] [0, 2])
  (.seq (.seq (.rg [⟨(some 4), none, .mv (.t 0)⟩,
      ⟨(some 5), none, .nilck (.t 4)⟩,
      ⟨(some 6), none, .fad 6 (.t 5)⟩,
      ⟨(some 7), none, .load false 1 (.t 6) false⟩,
      ⟨(some 8), none, .len false (.t 7)⟩,
      ⟨(some 9), none, .bin .eql (.t 8) (.c (.int .i64 0))⟩] [0, 2, 9])
  (.cond (.t 9)
    (.seq (.rg [⟨(some 10), none, .build [(.bool false), (.int .i64 0)] []⟩,
        ⟨none, none, .store 2 (.t 2) (.t 10)⟩,
        ⟨(some 3), none, .mv (.c (.bool false))⟩] [2, 3])
    .ret)
    .skip))
  (.seq (.rg [⟨(some 11), none, .mv (.t 0)⟩,
      ⟨(some 12), none, .nilck (.t 11)⟩,
      ⟨(some 13), none, .fad 3 (.t 12)⟩,
      ⟨(some 14), none, .call 2 (.f 33) [(.t 13)]⟩,
      ⟨(some 15), none, .mv (.t 0)⟩,
      ⟨(some 16), none, .nilck (.t 15)⟩,
      ⟨(some 17), none, .fad 6 (.t 16)⟩,
      ⟨(some 18), none, .load false 1 (.t 17) false⟩,
      ⟨(some 19), none, .len false (.t 18)⟩,
      ⟨(some 20), none, .call 2 (.f 10) [(.t 19)]⟩,
      ⟨(some 21), none, .call 2 (.f 34) [(.t 14), (.t 20)]⟩,
      ⟨none, none, .store 2 (.t 2) (.t 21)⟩,
      ⟨(some 3), none, .mv (.c (.bool true))⟩] [2, 3])
  .ret))),
  [.cell 2 true 2, .t 3]⟩

/- spillway/spillwaylaw12.same -/
def an17 : Ann := [[0, 1], [0, 1, 10], [4], [0, 1, 5], [0, 1, 5], [0, 1, 5, 14], [0, 1, 5, 25], [4], [0, 1, 5], [4]]
def fn17B0 : Cd :=
  (.seq (.seq (.rg [⟨(some 11), none, .mv (.t 5)⟩,
      ⟨(some 12), none, .mv (.t 0)⟩,
      ⟨(some 13), none, .len false (.t 12)⟩,
      ⟨(some 14), none, .bin .lss (.t 11) (.t 13)⟩] [0, 1, 5, 14])
  (.cond (.t 14)
    .skip
    (.exit 0)))
  (.seq (.block 1
    (.seq (.rg [⟨(some 17), none, .mv (.t 0)⟩,
        ⟨(some 18), none, .mv (.t 5)⟩,
        ⟨(some 19), none, .iad 3 (.t 17) (.t 18)⟩,
        ⟨(some 20), none, .load true 3 (.t 19) false⟩,
        ⟨(some 21), none, .mv (.t 1)⟩,
        ⟨(some 22), none, .mv (.t 5)⟩,
        ⟨(some 23), none, .iad 3 (.t 21) (.t 22)⟩,
        ⟨(some 24), none, .load true 3 (.t 23) false⟩,
        ⟨(some 25), none, .eqs true [1, 0, 1] (.t 20) (.t 24)⟩] [0, 1, 5, 25])
    (.cond (.t 25)
      (.seq (.rg [⟨(some 4), none, .mv (.c (.bool false))⟩] [4])
      .ret)
      .skip)))
  (.rg [⟨(some 15), none, .mv (.t 5)⟩,
      ⟨(some 16), none, .bin .add (.t 15) (.c (.int .i64 1))⟩,
      ⟨(some 5), none, .mv (.t 16)⟩] [0, 1, 5])))
def fn17L0 : Cd := .loop [0, 1, 5] fn17B0
def fn17 : Vs.Fn := ⟨2,
  (.seq (.rg [⟨(some 4), none, .mv (.c (.bool false))⟩] [0, 1])
  (.seq (.seq (.rg [⟨(some 6), none, .mv (.t 0)⟩,
      ⟨(some 7), none, .len false (.t 6)⟩,
      ⟨(some 8), none, .mv (.t 1)⟩,
      ⟨(some 9), none, .len false (.t 8)⟩,
      ⟨(some 10), none, .bin .neq (.t 7) (.t 9)⟩] [0, 1, 10])
  (.cond (.t 10)
    (.seq (.rg [⟨(some 4), none, .mv (.c (.bool false))⟩] [4])
    .ret)
    .skip))
  (.seq (.seq (.rg [⟨(some 5), none, .mv (.c (.int .i64 0))⟩] [0, 1, 5])
  (.block 0
    fn17L0))
  (.seq (.rg [⟨(some 4), none, .mv (.c (.bool true))⟩] [4])
  .ret)))),
  [.t 4]⟩

/- (*spillway/ring.Ring).All -/
def an18 : Ann := [[0], [0], [2]]
def fn18 : Vs.Fn := ⟨1,
  (.seq (.rg [⟨(some 2), none, .mv (.c (.slice none 0 0))⟩] [0])
  (.seq (.rg [⟨(some 3), none, .mv (.t 0)⟩,
      ⟨(some 4), none, .nilck (.t 3)⟩,
      ⟨(some 5), none, .fad 6 (.t 4)⟩,
      ⟨(some 6), none, .load false 1 (.t 5) false⟩,
      ⟨(some 7), none, .call 0 (.f 35) [(.t 6)]⟩,
      ⟨(some 2), none, .mv (.t 7)⟩] [2])
  .ret)),
  [.t 2]⟩

/- (*spillway/ring.Ring).Delta -/
def an19 : Ann := [[0, 2], [0, 2, 9], [2, 3], [2], [2, 3]]
def fn19 : Vs.Fn := ⟨1,
  (.seq (.rg [⟨(some 2), none, .alloc [(.bool false), (.int .i64 0)]⟩,
      ⟨(some 3), none, .mv (.c (.bool false))⟩] [0, 2])
  (.seq (.seq (.rg [⟨(some 4), none, .mv (.t 0)⟩,
      ⟨(some 5), none, .nilck (.t 4)⟩,
      ⟨(some 6), none, .fad 6 (.t 5)⟩,
      ⟨(some 7), none, .load false 1 (.t 6) false⟩,
      ⟨(some 8), none, .len false (.t 7)⟩,
      ⟨(some 9), none, .bin .lss (.t 8) (.c (.int .i64 2))⟩] [0, 2, 9])
  (.cond (.t 9)
    (.seq (.rg [⟨(some 10), none, .build [(.bool false), (.int .i64 0)] []⟩,
        ⟨none, none, .store 2 (.t 2) (.t 10)⟩,
        ⟨(some 3), none, .mv (.c (.bool false))⟩] [2, 3])
    .ret)
    .skip))
  (.seq (.rg [⟨(some 11), none, .mv (.t 0)⟩,
      ⟨(some 12), none, .nilck (.t 11)⟩,
      ⟨(some 13), none, .fad 6 (.t 12)⟩,
      ⟨(some 14), none, .load false 1 (.t 13) false⟩,
      ⟨(some 15), none, .mv (.t 0)⟩,
      ⟨(some 16), none, .nilck (.t 15)⟩,
      ⟨(some 17), none, .fad 6 (.t 16)⟩,
      ⟨(some 18), none, .load false 1 (.t 17) false⟩,
      ⟨(some 19), none, .len false (.t 18)⟩,
      ⟨(some 20), none, .bin .sub (.t 19) (.c (.int .i64 1))⟩,
      ⟨(some 21), none, .iad 3 (.t 14) (.t 20)⟩,
      ⟨(some 22), none, .fad 1 (.t 21)⟩,
      ⟨(some 23), none, .load true 2 (.t 22) false⟩,
      ⟨(some 24), none, .mv (.t 0)⟩,
      ⟨(some 25), none, .nilck (.t 24)⟩,
      ⟨(some 26), none, .fad 6 (.t 25)⟩,
      ⟨(some 27), none, .load false 1 (.t 26) false⟩,
      ⟨(some 28), none, .iad 3 (.t 27) (.c (.int .i64 0))⟩,
      ⟨(some 29), none, .fad 1 (.t 28)⟩,
      ⟨(some 30), none, .load true 2 (.t 29) false⟩,
      ⟨(some 31), none, .call 2 (.f 20) [(.t 23), (.t 30)]⟩,
      ⟨none, none, .store 2 (.t 2) (.t 31)⟩,
      ⟨(some 3), none, .mv (.c (.bool true))⟩] [2, 3])
  .ret))),
  [.cell 2 true 2, .t 3]⟩

/- spillway/fix.Sub -/
def an20 : Ann := [[2, 3, 4], [2], [2], [4]]
def fn20 : Vs.Fn := ⟨2,
  (.seq (.rg [⟨(some 2), none, .box 2 (.t 0)⟩,
      ⟨(some 3), none, .box 2 (.t 1)⟩,
      ⟨(some 4), none, .alloc [(.bool false), (.int .i64 0)]⟩] [2, 3, 4])
  (.seq (.rg [⟨(some 5), none, .load true 2 (.t 2) false⟩,
      ⟨(some 6), none, .load true 2 (.t 3) false⟩,
      ⟨(some 7), none, .call 2 (.f 37) [(.t 6)]⟩,
      ⟨(some 8), none, .bslice 2 2 [(.bool false), (.int .i64 0)] [(0, (.t 5)), (1, (.t 7))]⟩,
      ⟨(some 9), none, .call 2 (.f 36) [(.t 8)]⟩,
      ⟨none, none, .store 2 (.t 4) (.t 9)⟩] [4])
  .ret)),
  [.cell 4 true 2]⟩

/- (*spillway/spillwaylaw12.model).advance -/
def an21 : Ann := [[0], [0], [0, 38], [0]]
def fn21B0 : Cd :=
  (.seq (.seq (.rg [⟨(some 14), none, .mv (.t 0)⟩,
      ⟨(some 15), none, .nilck (.t 14)⟩,
      ⟨(some 16), none, .fad 3 (.t 15)⟩,
      ⟨(some 17), none, .load false 1 (.t 16) false⟩,
      ⟨(some 18), none, .len false (.t 17)⟩,
      ⟨(some 19), none, .bin .gtr (.t 18) (.c (.int .i64 0))⟩,
      ⟨(some 20), none, .mv (.t 19)⟩,
      ⟨(some 21), some (20, true), .mv (.t 0)⟩,
      ⟨(some 22), some (20, true), .nilck (.t 21)⟩,
      ⟨(some 23), some (20, true), .fad 3 (.t 22)⟩,
      ⟨(some 24), some (20, true), .load false 1 (.t 23) false⟩,
      ⟨(some 25), some (20, true), .iad 3 (.t 24) (.c (.int .i64 0))⟩,
      ⟨(some 26), some (20, true), .fad 0 (.t 25)⟩,
      ⟨(some 27), some (20, true), .load false 1 (.t 26) false⟩,
      ⟨(some 28), some (20, true), .mv (.t 0)⟩,
      ⟨(some 29), some (20, true), .nilck (.t 28)⟩,
      ⟨(some 30), some (20, true), .fad 1 (.t 29)⟩,
      ⟨(some 31), some (20, true), .load false 1 (.t 30) false⟩,
      ⟨(some 32), some (20, true), .mv (.t 0)⟩,
      ⟨(some 33), some (20, true), .nilck (.t 32)⟩,
      ⟨(some 34), some (20, true), .fad 0 (.t 33)⟩,
      ⟨(some 35), some (20, true), .load false 1 (.t 34) false⟩,
      ⟨(some 36), some (20, true), .bin .sub (.t 31) (.t 35)⟩,
      ⟨(some 37), some (20, true), .bin .leq (.t 27) (.t 36)⟩,
      ⟨(some 38), none, .pick (.t 20) (.t 37) (.c (.bool false))⟩] [0, 38])
  (.cond (.t 38)
    .skip
    (.exit 0)))
  (.block 1
    (.rg [⟨(some 39), none, .mv (.t 0)⟩,
        ⟨(some 40), none, .mv (.t 0)⟩,
        ⟨(some 41), none, .nilck (.t 40)⟩,
        ⟨(some 42), none, .fad 3 (.t 41)⟩,
        ⟨(some 43), none, .load false 1 (.t 42) false⟩,
        ⟨(some 44), none, .slsl 3 (.t 43) (some (.c (.int .i64 1))) none none⟩,
        ⟨(some 45), none, .nilck (.t 39)⟩,
        ⟨(some 46), none, .fad 3 (.t 45)⟩,
        ⟨none, none, .store 1 (.t 46) (.t 44)⟩] [0])))
def fn21L0 : Cd := .loop [0] fn21B0
def fn21 : Vs.Fn := ⟨2,
  (.seq (.rg [⟨(some 4), none, .mv (.t 0)⟩,
      ⟨(some 5), none, .mv (.t 0)⟩,
      ⟨(some 6), none, .nilck (.t 5)⟩,
      ⟨(some 7), none, .fad 1 (.t 6)⟩,
      ⟨(some 8), none, .load false 1 (.t 7) false⟩,
      ⟨(some 9), none, .mv (.t 1)⟩,
      ⟨(some 10), none, .mn [(.t 9), (.c (.int .i64 1000000))]⟩,
      ⟨(some 11), none, .mx [(.t 8), (.t 10)]⟩,
      ⟨(some 12), none, .nilck (.t 4)⟩,
      ⟨(some 13), none, .fad 1 (.t 12)⟩,
      ⟨none, none, .store 1 (.t 13) (.t 11)⟩] [0])
  (.block 0
    fn21L0)),
  []⟩

/- (*spillway/spillwaylaw12.model).add -/
def an22 : Ann := [[0, 3], [0, 3, 30], [4], [0, 3, 37], [4], [2], [0, 3], [0, 3], [], [4]]
def fn22 : Vs.Fn := ⟨2,
  (.seq (.rg [⟨(some 3), none, .box 3 (.t 1)⟩,
      ⟨(some 4), none, .mv (.c (.int .i64 0))⟩] [0, 3])
  (.seq (.seq (.rg [⟨(some 5), none, .fad 0 (.t 3)⟩,
      ⟨(some 6), none, .load false 1 (.t 5) false⟩,
      ⟨(some 7), none, .bin .lss (.t 6) (.c (.int .i64 0))⟩,
      ⟨(some 8), none, .mv (.t 7)⟩,
      ⟨(some 9), some (8, false), .fad 0 (.t 3)⟩,
      ⟨(some 10), some (8, false), .load false 1 (.t 9) false⟩,
      ⟨(some 11), some (8, false), .mv (.t 0)⟩,
      ⟨(some 12), some (8, false), .nilck (.t 11)⟩,
      ⟨(some 13), some (8, false), .fad 1 (.t 12)⟩,
      ⟨(some 14), some (8, false), .load false 1 (.t 13) false⟩,
      ⟨(some 15), some (8, false), .bin .gtr (.t 10) (.t 14)⟩,
      ⟨(some 16), none, .pick (.t 8) (.c (.bool true)) (.t 15)⟩,
      ⟨(some 17), none, .mv (.t 16)⟩,
      ⟨(some 18), some (17, false), .fad 0 (.t 3)⟩,
      ⟨(some 19), some (17, false), .load false 1 (.t 18) false⟩,
      ⟨(some 20), some (17, false), .mv (.t 0)⟩,
      ⟨(some 21), some (17, false), .nilck (.t 20)⟩,
      ⟨(some 22), some (17, false), .fad 1 (.t 21)⟩,
      ⟨(some 23), some (17, false), .load false 1 (.t 22) false⟩,
      ⟨(some 24), some (17, false), .mv (.t 0)⟩,
      ⟨(some 25), some (17, false), .nilck (.t 24)⟩,
      ⟨(some 26), some (17, false), .fad 0 (.t 25)⟩,
      ⟨(some 27), some (17, false), .load false 1 (.t 26) false⟩,
      ⟨(some 28), some (17, false), .bin .sub (.t 23) (.t 27)⟩,
      ⟨(some 29), some (17, false), .bin .leq (.t 19) (.t 28)⟩,
      ⟨(some 30), none, .pick (.t 17) (.c (.bool true)) (.t 29)⟩] [0, 3, 30])
  (.cond (.t 30)
    (.seq (.rg [⟨(some 4), none, .mv (.c (.int .i64 152))⟩] [4])
    .ret)
    .skip))
  (.seq (.seq (.rg [⟨(some 31), none, .fad 0 (.t 3)⟩,
      ⟨(some 32), none, .load false 1 (.t 31) false⟩,
      ⟨(some 33), none, .mv (.t 0)⟩,
      ⟨(some 34), none, .nilck (.t 33)⟩,
      ⟨(some 35), none, .fad 2 (.t 34)⟩,
      ⟨(some 36), none, .load false 1 (.t 35) false⟩,
      ⟨(some 37), none, .bin .leq (.t 32) (.t 36)⟩] [0, 3, 37])
  (.cond (.t 37)
    (.seq (.rg [⟨(some 4), none, .mv (.c (.int .i64 150))⟩] [4])
    .ret)
    .skip))
  (.seq (.rg [⟨(some 38), none, .fad 1 (.t 3)⟩,
      ⟨(some 39), none, .load true 2 (.t 38) false⟩,
      ⟨(some 40), none, .call 2 (.f 38) [(.t 39)]⟩,
      ⟨(some 41), none, .fad 1 (.t 3)⟩,
      ⟨none, none, .store 2 (.t 41) (.t 40)⟩] [0, 3])
  (.seq (.rg [⟨(some 42), none, .mv (.t 0)⟩,
      ⟨(some 43), none, .fad 0 (.t 3)⟩,
      ⟨(some 44), none, .load false 1 (.t 43) false⟩,
      ⟨(some 45), none, .nilck (.t 42)⟩,
      ⟨(some 46), none, .fad 2 (.t 45)⟩,
      ⟨none, none, .store 1 (.t 46) (.t 44)⟩] [0, 3])
  (.seq (.rg [⟨(some 47), none, .mv (.t 0)⟩,
      ⟨(some 48), none, .mv (.t 0)⟩,
      ⟨(some 49), none, .nilck (.t 48)⟩,
      ⟨(some 50), none, .fad 3 (.t 49)⟩,
      ⟨(some 51), none, .load false 1 (.t 50) false⟩,
      ⟨(some 52), none, .mv (.t 0)⟩,
      ⟨(some 53), none, .nilck (.t 52)⟩,
      ⟨(some 54), none, .fad 3 (.t 53)⟩,
      ⟨(some 55), none, .load false 1 (.t 54) false⟩,
      ⟨(some 56), none, .len false (.t 55)⟩,
      ⟨(some 57), none, .mv (.t 0)⟩,
      ⟨(some 58), none, .nilck (.t 57)⟩,
      ⟨(some 59), none, .fad 3 (.t 58)⟩,
      ⟨(some 60), none, .load false 1 (.t 59) false⟩,
      ⟨(some 61), none, .len false (.t 60)⟩,
      ⟨(some 62), none, .slsl 3 (.t 51) none (some (.t 56)) (some (.t 61))⟩,
      ⟨(some 63), none, .load true 3 (.t 3) false⟩,
      ⟨(some 64), none, .bslice 1 3 [(.int .i64 0), (.bool false), (.int .i64 0)] [(0, (.t 63))]⟩,
      ⟨(some 65), none, .app 3 24 (.t 62) (.t 64)⟩,
      ⟨(some 66), none, .nilck (.t 47)⟩,
      ⟨(some 67), none, .fad 3 (.t 66)⟩,
      ⟨none, none, .store 1 (.t 67) (.t 65)⟩] [])
  (.seq (.rg [⟨(some 4), none, .mv (.c (.int .i64 0))⟩] [4])
  .ret))))))),
  [.t 4]⟩

/- spillway/spillwaylaw12.alike -/
def an23 : Ann := [[0, 1], [2], [2], [2], [2], [0], [2], [0, 1, 36], [4], [2], [0, 1, 5, 6], [2], [0, 1, 5, 6, 7, 8], [2], [0, 1, 5, 6, 7, 8, 9, 10], [2], [0, 1, 5, 6, 7, 8, 9, 10, 11, 12], [0, 1, 80], [4], [2], [0, 1, 13, 14], [2], [1, 13, 14, 15, 16], [4]]
def fn23 : Vs.Fn := ⟨2,
  (.seq (.rg [⟨(some 4), none, .mv (.c (.bool false))⟩] [0, 1])
  (.seq (.seq (.rg [⟨(some 17), none, .mv (.t 0)⟩,
      ⟨(some 18), none, .call 2 (.f 18) [(.t 17)]⟩,
      ⟨(some 19), none, .mv (.t 1)⟩,
      ⟨(some 20), none, .call 2 (.f 17) [(.t 18), (.t 19)]⟩,
      ⟨(some 21), none, .un .not (.t 20)⟩,
      ⟨(some 22), none, .mv (.t 21)⟩,
      ⟨(some 23), some (22, false), .mv (.t 0)⟩,
      ⟨(some 24), some (22, false), .call 2 (.f 14) [(.t 23)]⟩,
      ⟨(some 25), some (22, false), .mv (.t 1)⟩,
      ⟨(some 26), some (22, false), .len false (.t 25)⟩,
      ⟨(some 27), some (22, false), .bin .neq (.t 24) (.t 26)⟩,
      ⟨(some 28), none, .pick (.t 22) (.c (.bool true)) (.t 27)⟩,
      ⟨(some 29), none, .mv (.t 28)⟩,
      ⟨(some 30), some (29, false), .mv (.t 0)⟩,
      ⟨(some 31), some (29, false), .call 2 (.f 13) [(.t 30)]⟩,
      ⟨(some 32), some (29, false), .mv (.t 1)⟩,
      ⟨(some 33), some (29, false), .call 0 (.f 40) [(.t 32)]⟩,
      ⟨(some 34), some (29, false), .call 2 (.f 39) [(.t 33)]⟩,
      ⟨(some 35), some (29, false), .eqs true [0, 1] (.t 31) (.t 34)⟩,
      ⟨(some 36), none, .pick (.t 29) (.c (.bool true)) (.t 35)⟩] [0, 1, 36])
  (.cond (.t 36)
    (.seq (.rg [⟨(some 4), none, .mv (.c (.bool false))⟩] [4])
    .ret)
    .skip))
  (.seq (.rg [⟨(some 38), none, .mv (.t 0)⟩,
      ⟨(some 39), none, .call 2 (.f 16) [(.t 38)]⟩,
      ⟨(some 37), none, .mv (.t 39)⟩,
      ⟨(some 40), none, .ext (.t 37) 0⟩,
      ⟨(some 41), none, .ext (.t 37) 1⟩,
      ⟨(some 5), none, .alloc [(.bool false), (.int .i64 0)]⟩,
      ⟨none, none, .store 2 (.t 5) (.t 40)⟩,
      ⟨(some 6), none, .mv (.t 41)⟩] [0, 1, 5, 6])
  (.seq (.rg [⟨(some 43), none, .mv (.t 1)⟩,
      ⟨(some 44), none, .call 2 (.f 41) [(.t 43), (.c (.string ⟨#[97, 118, 103]⟩)), (.c (.int .i64 1))]⟩,
      ⟨(some 42), none, .mv (.t 44)⟩,
      ⟨(some 45), none, .ext (.t 42) 0⟩,
      ⟨(some 46), none, .ext (.t 42) 1⟩,
      ⟨(some 7), none, .alloc [(.bool false), (.int .i64 0)]⟩,
      ⟨none, none, .store 2 (.t 7) (.t 45)⟩,
      ⟨(some 8), none, .mv (.t 46)⟩] [0, 1, 5, 6, 7, 8])
  (.seq (.rg [⟨(some 48), none, .mv (.t 0)⟩,
      ⟨(some 49), none, .call 2 (.f 19) [(.t 48)]⟩,
      ⟨(some 47), none, .mv (.t 49)⟩,
      ⟨(some 50), none, .ext (.t 47) 0⟩,
      ⟨(some 51), none, .ext (.t 47) 1⟩,
      ⟨(some 9), none, .alloc [(.bool false), (.int .i64 0)]⟩,
      ⟨none, none, .store 2 (.t 9) (.t 50)⟩,
      ⟨(some 10), none, .mv (.t 51)⟩] [0, 1, 5, 6, 7, 8, 9, 10])
  (.seq (.rg [⟨(some 53), none, .mv (.t 1)⟩,
      ⟨(some 54), none, .call 2 (.f 41) [(.t 53), (.c (.string ⟨#[100, 101, 108, 116, 97]⟩)), (.c (.int .i64 1))]⟩,
      ⟨(some 52), none, .mv (.t 54)⟩,
      ⟨(some 55), none, .ext (.t 52) 0⟩,
      ⟨(some 56), none, .ext (.t 52) 1⟩,
      ⟨(some 11), none, .alloc [(.bool false), (.int .i64 0)]⟩,
      ⟨none, none, .store 2 (.t 11) (.t 55)⟩,
      ⟨(some 12), none, .mv (.t 56)⟩] [0, 1, 5, 6, 7, 8, 9, 10, 11, 12])
  (.seq (.seq (.rg [⟨(some 57), none, .mv (.t 6)⟩,
      ⟨(some 58), none, .mv (.t 8)⟩,
      ⟨(some 59), none, .eqb true (.t 57) (.t 58)⟩,
      ⟨(some 60), none, .mv (.t 59)⟩,
      ⟨(some 61), some (60, false), .mv (.t 6)⟩,
      ⟨(some 62), some (60, false), .mv (.t 61)⟩,
      ⟨(some 63), some (62, true), .load true 2 (.t 5) false⟩,
      ⟨(some 64), some (62, true), .load true 2 (.t 7) false⟩,
      ⟨(some 65), some (62, true), .eqs true [0, 1] (.t 63) (.t 64)⟩,
      ⟨(some 66), some (60, false), .pick (.t 62) (.t 65) (.c (.bool false))⟩,
      ⟨(some 67), none, .pick (.t 60) (.c (.bool true)) (.t 66)⟩,
      ⟨(some 68), none, .mv (.t 67)⟩,
      ⟨(some 69), some (68, false), .mv (.t 10)⟩,
      ⟨(some 70), some (68, false), .mv (.t 12)⟩,
      ⟨(some 71), some (68, false), .eqb true (.t 69) (.t 70)⟩,
      ⟨(some 72), none, .pick (.t 68) (.c (.bool true)) (.t 71)⟩,
      ⟨(some 73), none, .mv (.t 72)⟩,
      ⟨(some 74), some (73, false), .mv (.t 10)⟩,
      ⟨(some 75), some (73, false), .mv (.t 74)⟩,
      ⟨(some 76), some (75, true), .load true 2 (.t 9) false⟩,
      ⟨(some 77), some (75, true), .load true 2 (.t 11) false⟩,
      ⟨(some 78), some (75, true), .eqs true [0, 1] (.t 76) (.t 77)⟩,
      ⟨(some 79), some (73, false), .pick (.t 75) (.t 78) (.c (.bool false))⟩,
      ⟨(some 80), none, .pick (.t 73) (.c (.bool true)) (.t 79)⟩] [0, 1, 80])
  (.cond (.t 80)
    (.seq (.rg [⟨(some 4), none, .mv (.c (.bool false))⟩] [4])
    .ret)
    .skip))
  (.seq (.rg [⟨(some 82), none, .mv (.t 0)⟩,
      ⟨(some 83), none, .call 2 (.f 15) [(.t 82)]⟩,
      ⟨(some 81), none, .mv (.t 83)⟩,
      ⟨(some 84), none, .ext (.t 81) 0⟩,
      ⟨(some 85), none, .ext (.t 81) 1⟩,
      ⟨(some 13), none, .alloc [(.int .i64 0), (.bool false), (.int .i64 0)]⟩,
      ⟨none, none, .store 3 (.t 13) (.t 84)⟩,
      ⟨(some 14), none, .mv (.t 85)⟩] [0, 1, 13, 14])
  (.seq (.rg [⟨(some 87), none, .mv (.t 0)⟩,
      ⟨(some 88), none, .call 2 (.f 24) [(.t 87)]⟩,
      ⟨(some 86), none, .mv (.t 88)⟩,
      ⟨(some 89), none, .ext (.t 86) 0⟩,
      ⟨(some 90), none, .ext (.t 86) 1⟩,
      ⟨(some 15), none, .alloc [(.int .i64 0), (.bool false), (.int .i64 0)]⟩,
      ⟨none, none, .store 3 (.t 15) (.t 89)⟩,
      ⟨(some 16), none, .mv (.t 90)⟩] [1, 13, 14, 15, 16])
  (.seq (.rg [⟨(some 91), none, .mv (.t 14)⟩,
      ⟨(some 92), none, .mv (.t 1)⟩,
      ⟨(some 93), none, .len false (.t 92)⟩,
      ⟨(some 94), none, .bin .gtr (.t 93) (.c (.int .i64 0))⟩,
      ⟨(some 95), none, .eqb false (.t 91) (.t 94)⟩,
      ⟨(some 96), none, .mv (.t 95)⟩,
      ⟨(some 97), some (96, true), .mv (.t 16)⟩,
      ⟨(some 98), some (96, true), .mv (.t 14)⟩,
      ⟨(some 99), some (96, true), .eqb false (.t 97) (.t 98)⟩,
      ⟨(some 100), none, .pick (.t 96) (.t 99) (.c (.bool false))⟩,
      ⟨(some 101), none, .mv (.t 100)⟩,
      ⟨(some 102), some (101, true), .mv (.t 14)⟩,
      ⟨(some 103), some (101, true), .un .not (.t 102)⟩,
      ⟨(some 104), some (101, true), .mv (.t 103)⟩,
      ⟨(some 105), some (104, false), .load true 3 (.t 13) false⟩,
      ⟨(some 106), some (104, false), .mv (.t 1)⟩,
      ⟨(some 107), some (104, false), .iad 3 (.t 106) (.c (.int .i64 0))⟩,
      ⟨(some 108), some (104, false), .load true 3 (.t 107) false⟩,
      ⟨(some 109), some (104, false), .eqs false [1, 0, 1] (.t 105) (.t 108)⟩,
      ⟨(some 110), some (104, false), .mv (.t 109)⟩,
      ⟨(some 111), some (110, true), .load true 3 (.t 15) false⟩,
      ⟨(some 112), some (110, true), .mv (.t 1)⟩,
      ⟨(some 113), some (110, true), .mv (.t 1)⟩,
      ⟨(some 114), some (110, true), .len false (.t 113)⟩,
      ⟨(some 115), some (110, true), .bin .sub (.t 114) (.c (.int .i64 1))⟩,
      ⟨(some 116), some (110, true), .iad 3 (.t 112) (.t 115)⟩,
      ⟨(some 117), some (110, true), .load true 3 (.t 116) false⟩,
      ⟨(some 118), some (110, true), .eqs false [1, 0, 1] (.t 111) (.t 117)⟩,
      ⟨(some 119), some (104, false), .pick (.t 110) (.t 118) (.c (.bool false))⟩,
      ⟨(some 120), some (101, true), .pick (.t 104) (.c (.bool true)) (.t 119)⟩,
      ⟨(some 121), none, .pick (.t 101) (.t 120) (.c (.bool false))⟩,
      ⟨(some 4), none, .mv (.t 121)⟩] [4])
  .ret)))))))))),
  [.t 4]⟩

/- (*spillway/ring.Ring).Last -/
def an24 : Ann := [[0, 2], [0, 2, 9], [2, 3], [2, 3]]
def fn24 : Vs.Fn := ⟨1,
  (.seq (.rg [⟨(some 2), none, .alloc [(.int .i64 0), (.bool false), (.int .i64 0)]⟩,
      ⟨(some 3), none, .mv (.c (.bool false))⟩] [0, 2])
  (.seq (.seq (.rg [⟨(some 4), none, .mv (.t 0)⟩,
      ⟨(some 5), none, .nilck (.t 4)⟩,
      ⟨(some 6), none, .fad 6 (.t 5)⟩,
      ⟨(some 7), none, .load false 1 (.t 6) false⟩,
      ⟨(some 8), none, .len false (.t 7)⟩,
      ⟨(some 9), none, .bin .eql (.t 8) (.c (.int .i64 0))⟩] [0, 2, 9])
  (.cond (.t 9)
    (.seq (.rg [⟨(some 10), none, .build [(.int .i64 0), (.bool false), (.int .i64 0)] []⟩,
        ⟨none, none, .store 3 (.t 2) (.t 10)⟩,
        ⟨(some 3), none, .mv (.c (.bool false))⟩] [2, 3])
    .ret)
    .skip))
  (.seq (.rg [⟨(some 11), none, .mv (.t 0)⟩,
      ⟨(some 12), none, .nilck (.t 11)⟩,
      ⟨(some 13), none, .fad 6 (.t 12)⟩,
      ⟨(some 14), none, .load false 1 (.t 13) false⟩,
      ⟨(some 15), none, .mv (.t 0)⟩,
      ⟨(some 16), none, .nilck (.t 15)⟩,
      ⟨(some 17), none, .fad 6 (.t 16)⟩,
      ⟨(some 18), none, .load false 1 (.t 17) false⟩,
      ⟨(some 19), none, .len false (.t 18)⟩,
      ⟨(some 20), none, .bin .sub (.t 19) (.c (.int .i64 1))⟩,
      ⟨(some 21), none, .iad 3 (.t 14) (.t 20)⟩,
      ⟨(some 22), none, .load true 3 (.t 21) false⟩,
      ⟨none, none, .store 3 (.t 2) (.t 22)⟩,
      ⟨(some 3), none, .mv (.c (.bool true))⟩] [2, 3])
  .ret))),
  [.cell 2 true 3, .t 3]⟩

/- spillway/ring.Start -/
def an25 : Ann := [[0, 2], [2]]
def fn25 : Vs.Fn := ⟨1,
  (.seq (.rg [⟨(some 2), none, .alloc [(.int .i64 0), (.int .i64 0), (.int .i64 0)]⟩] [0, 2])
  (.seq (.rg [⟨(some 3), none, .mv (.t 0)⟩,
      ⟨(some 4), none, .mx [(.t 3), (.c (.int .i64 1))]⟩,
      ⟨(some 5), none, .mn [(.t 4), (.c (.int .i64 100))]⟩,
      ⟨(some 6), none, .build [(.int .i64 0), (.int .i64 0), (.int .i64 0)] [(0, 1, (.t 5)), (2, 1, (.c (.int .i64 (-1))))]⟩,
      ⟨none, none, .store 3 (.t 2) (.t 6)⟩] [2])
  .ret)),
  [.cell 2 true 3]⟩

/- spillway/fix.scaled -/
def an26 : Ann := [[0, 1, 2, 3, 8], [2], [0, 3, 8, 9, 10], [0, 3, 8, 9, 10, 21], [2], [8], [2], [0, 8, 11], [0, 8, 11, 31], [2], [8], [8, 11, 33], [8], [8]]
def fn26 : Vs.Fn := ⟨4,
  (.seq (.rg [⟨(some 8), none, .alloc [(.bool false), (.int .i64 0)]⟩] [0, 1, 2, 3, 8])
  (.seq (.rg [⟨(some 14), none, .mv (.t 1)⟩,
      ⟨(some 15), none, .mv (.t 2)⟩,
      ⟨(some 16), none, .call 2 (.f 42) [(.t 14), (.t 15)]⟩,
      ⟨(some 13), none, .mv (.t 16)⟩,
      ⟨(some 17), none, .ext (.t 13) 0⟩,
      ⟨(some 18), none, .ext (.t 13) 1⟩,
      ⟨(some 9), none, .mv (.t 17)⟩,
      ⟨(some 10), none, .mv (.t 18)⟩] [0, 3, 8, 9, 10])
  (.seq (.seq (.rg [⟨(some 19), none, .mv (.t 9)⟩,
      ⟨(some 20), none, .mv (.t 3)⟩,
      ⟨(some 21), none, .bin .geq (.t 19) (.t 20)⟩] [0, 3, 8, 9, 10, 21])
  (.cond (.t 21)
    (.seq (.rg [⟨(some 22), none, .call 2 (.f 43) []⟩,
        ⟨none, none, .store 2 (.t 8) (.t 22)⟩] [8])
    .ret)
    .skip))
  (.seq (.rg [⟨(some 24), none, .mv (.t 9)⟩,
      ⟨(some 25), none, .mv (.t 10)⟩,
      ⟨(some 26), none, .mv (.t 3)⟩,
      ⟨(some 27), none, .call 2 (.f 44) [(.t 24), (.t 25), (.t 26)]⟩,
      ⟨(some 23), none, .mv (.t 27)⟩,
      ⟨(some 28), none, .ext (.t 23) 0⟩,
      ⟨(some 29), none, .ext (.t 23) 1⟩,
      ⟨(some 11), none, .mv (.t 28)⟩,
      ⟨(some 12), none, .mv (.t 29)⟩] [0, 8, 11])
  (.seq (.seq (.rg [⟨(some 30), none, .mv (.t 11)⟩,
      ⟨(some 31), none, .bin .gtr (.t 30) (.c (.int .u64 9223372036854775807))⟩] [0, 8, 11, 31])
  (.cond (.t 31)
    (.seq (.rg [⟨(some 32), none, .call 2 (.f 43) []⟩,
        ⟨none, none, .store 2 (.t 8) (.t 32)⟩] [8])
    .ret)
    .skip))
  (.seq (.seq (.rg [⟨(some 33), none, .mv (.t 0)⟩] [8, 11, 33])
  (.cond (.t 33)
    (.seq (.rg [⟨(some 34), none, .mv (.t 11)⟩,
        ⟨(some 35), none, .cvi .i64 (.t 34)⟩,
        ⟨(some 36), none, .un .neg (.t 35)⟩,
        ⟨(some 37), none, .build [(.bool false), (.int .i64 0)] [(1, 1, (.t 36))]⟩,
        ⟨none, none, .store 2 (.t 8) (.t 37)⟩] [8])
    .ret)
    .skip))
  (.seq (.rg [⟨(some 38), none, .mv (.t 11)⟩,
      ⟨(some 39), none, .cvi .i64 (.t 38)⟩,
      ⟨(some 40), none, .build [(.bool false), (.int .i64 0)] [(1, 1, (.t 39))]⟩,
      ⟨none, none, .store 2 (.t 8) (.t 40)⟩] [8])
  .ret))))))),
  [.cell 8 true 2]⟩

/- spillway/fix.size -/
def an27 : Ann := [[0], [0, 4], [2], [2]]
def fn27 : Vs.Fn := ⟨1,
  (.seq (.rg [⟨(some 2), none, .mv (.c (.int .u64 0))⟩] [0])
  (.seq (.seq (.rg [⟨(some 3), none, .mv (.t 0)⟩,
      ⟨(some 4), none, .bin .lss (.t 3) (.c (.int .i64 0))⟩] [0, 4])
  (.cond (.t 4)
    (.seq (.rg [⟨(some 5), none, .mv (.t 0)⟩,
        ⟨(some 6), none, .cvi .u64 (.t 5)⟩,
        ⟨(some 7), none, .un .neg (.t 6)⟩,
        ⟨(some 2), none, .mv (.t 7)⟩] [2])
    .ret)
    .skip))
  (.seq (.rg [⟨(some 8), none, .mv (.t 0)⟩,
      ⟨(some 9), none, .cvi .u64 (.t 8)⟩,
      ⟨(some 2), none, .mv (.t 9)⟩] [2])
  .ret))),
  [.t 2]⟩

/- (*spillway/ring.Clock).Moves -/
def an28 : Ann := [[]]
def fn28 : Vs.Fn := ⟨2,
  (.rg [⟨(some 4), none, .mv (.t 0)⟩,
      ⟨(some 5), none, .mv (.t 0)⟩,
      ⟨(some 6), none, .nilck (.t 5)⟩,
      ⟨(some 7), none, .fad 1 (.t 6)⟩,
      ⟨(some 8), none, .load false 1 (.t 7) false⟩,
      ⟨(some 9), none, .mv (.t 1)⟩,
      ⟨(some 10), none, .mn [(.t 9), (.c (.int .i64 1000000))]⟩,
      ⟨(some 11), none, .mx [(.t 8), (.t 10)]⟩,
      ⟨(some 12), none, .nilck (.t 4)⟩,
      ⟨(some 13), none, .fad 1 (.t 12)⟩,
      ⟨none, none, .store 1 (.t 13) (.t 11)⟩] []),
  []⟩

/- (*spillway/ring.Clock).Gone -/
def an29 : Ann := [[0, 1], [4]]
def fn29 : Vs.Fn := ⟨2,
  (.seq (.rg [⟨(some 4), none, .mv (.c (.bool false))⟩] [0, 1])
  (.seq (.rg [⟨(some 5), none, .mv (.t 1)⟩,
      ⟨(some 6), none, .mv (.t 0)⟩,
      ⟨(some 7), none, .nilck (.t 6)⟩,
      ⟨(some 8), none, .fad 1 (.t 7)⟩,
      ⟨(some 9), none, .load false 1 (.t 8) false⟩,
      ⟨(some 10), none, .mv (.t 0)⟩,
      ⟨(some 11), none, .nilck (.t 10)⟩,
      ⟨(some 12), none, .fad 0 (.t 11)⟩,
      ⟨(some 13), none, .load false 1 (.t 12) false⟩,
      ⟨(some 14), none, .bin .sub (.t 9) (.t 13)⟩,
      ⟨(some 15), none, .bin .leq (.t 5) (.t 14)⟩,
      ⟨(some 4), none, .mv (.t 15)⟩] [4])
  .ret)),
  [.t 4]⟩

/- (*spillway/ring.total).adds -/
def an30 : Ann := [[0, 2, 4], [0, 2, 4, 6], [0, 4, 6, 10], [0, 4, 6], [0, 4, 6, 12], [], [0, 7, 8], [0, 7, 8], [2], [0, 8, 9], [2], []]
def fn30 : Vs.Fn := ⟨3,
  (.seq (.rg [⟨(some 4), none, .box 2 (.t 1)⟩] [0, 2, 4])
  (.seq (.rg [⟨(some 6), none, .mv (.c (.int .i64 1))⟩] [0, 2, 4, 6])
  (.seq (.seq (.rg [⟨(some 10), none, .mv (.t 2)⟩] [0, 4, 6, 10])
  (.cond (.t 10)
    (.rg [⟨(some 6), none, .mv (.c (.int .i64 (-1)))⟩] [0, 4, 6])
    .skip))
  (.seq (.seq (.rg [⟨(some 11), none, .fad 0 (.t 4)⟩,
      ⟨(some 12), none, .load false 1 (.t 11) false⟩] [0, 4, 6, 12])
  (.cond (.t 12)
    (.seq (.rg [⟨(some 13), none, .mv (.t 0)⟩,
        ⟨(some 14), none, .nilck (.t 13)⟩,
        ⟨(some 15), none, .fad 2 (.t 14)⟩,
        ⟨(some 16), none, .load false 1 (.t 15) false⟩,
        ⟨(some 17), none, .mv (.t 6)⟩,
        ⟨(some 18), none, .bin .add (.t 16) (.t 17)⟩,
        ⟨(some 19), none, .nilck (.t 13)⟩,
        ⟨(some 20), none, .fad 2 (.t 19)⟩,
        ⟨none, none, .store 1 (.t 20) (.t 18)⟩] [])
    .ret)
    .skip))
  (.seq (.rg [⟨(some 21), none, .fad 1 (.t 4)⟩,
      ⟨(some 22), none, .load false 1 (.t 21) false⟩,
      ⟨(some 23), none, .mv (.t 6)⟩,
      ⟨(some 24), none, .bin .mul (.t 22) (.t 23)⟩,
      ⟨(some 25), none, .cvi .u64 (.t 24)⟩,
      ⟨(some 26), none, .fad 1 (.t 4)⟩,
      ⟨(some 27), none, .load false 1 (.t 26) false⟩,
      ⟨(some 28), none, .mv (.t 6)⟩,
      ⟨(some 29), none, .bin .mul (.t 27) (.t 28)⟩,
      ⟨(some 30), none, .bin .shr (.t 29) (.c (.int .u64 63))⟩,
      ⟨(some 31), none, .cvi .u64 (.t 30)⟩,
      ⟨(some 7), none, .mv (.t 25)⟩,
      ⟨(some 8), none, .mv (.t 31)⟩] [0, 7, 8])
  (.seq (.rg [⟨(some 9), none, .mv (.c (.int .u64 0))⟩] [0, 7, 8])
  (.seq (.rg [⟨(some 33), none, .mv (.t 0)⟩,
      ⟨(some 34), none, .mv (.t 0)⟩,
      ⟨(some 35), none, .nilck (.t 34)⟩,
      ⟨(some 36), none, .fad 1 (.t 35)⟩,
      ⟨(some 37), none, .load false 1 (.t 36) false⟩,
      ⟨(some 38), none, .mv (.t 7)⟩,
      ⟨(some 39), none, .pr .add64 [(.t 37), (.t 38), (.c (.int .u64 0))]⟩,
      ⟨(some 32), none, .mv (.t 39)⟩,
      ⟨(some 40), none, .ext (.t 32) 0⟩,
      ⟨(some 41), none, .ext (.t 32) 1⟩,
      ⟨(some 42), none, .nilck (.t 33)⟩,
      ⟨(some 43), none, .fad 1 (.t 42)⟩,
      ⟨none, none, .store 1 (.t 43) (.t 40)⟩,
      ⟨(some 9), none, .mv (.t 41)⟩] [0, 8, 9])
  (.rg [⟨(some 45), none, .mv (.t 0)⟩,
      ⟨(some 46), none, .mv (.t 0)⟩,
      ⟨(some 47), none, .nilck (.t 46)⟩,
      ⟨(some 48), none, .fad 0 (.t 47)⟩,
      ⟨(some 49), none, .load false 1 (.t 48) false⟩,
      ⟨(some 50), none, .mv (.t 8)⟩,
      ⟨(some 51), none, .mv (.t 9)⟩,
      ⟨(some 52), none, .pr .add64 [(.t 49), (.t 50), (.t 51)]⟩,
      ⟨(some 44), none, .mv (.t 52)⟩,
      ⟨(some 53), none, .ext (.t 44) 0⟩,
      ⟨(some 54), none, .ext (.t 44) 1⟩,
      ⟨(some 55), none, .nilck (.t 45)⟩,
      ⟨(some 56), none, .fad 0 (.t 55)⟩,
      ⟨none, none, .store 1 (.t 56) (.t 53)⟩] [])))))))),
  []⟩

/- (*spillway/ring.Clock).Takes -/
def an31 : Ann := [[0, 1], [2], [0, 1, 5], [4], [0, 1, 21], [4], [], [4]]
def fn31 : Vs.Fn := ⟨2,
  (.seq (.rg [⟨(some 4), none, .mv (.c (.int .i64 0))⟩] [0, 1])
  (.seq (.block 0
    (.seq (.rg [⟨(some 6), none, .mv (.t 1)⟩,
        ⟨(some 7), none, .bin .lss (.t 6) (.c (.int .i64 0))⟩,
        ⟨(some 8), none, .mv (.t 7)⟩,
        ⟨(some 9), some (8, false), .mv (.t 1)⟩,
        ⟨(some 10), some (8, false), .mv (.t 0)⟩,
        ⟨(some 11), some (8, false), .nilck (.t 10)⟩,
        ⟨(some 12), some (8, false), .fad 1 (.t 11)⟩,
        ⟨(some 13), some (8, false), .load false 1 (.t 12) false⟩,
        ⟨(some 14), some (8, false), .bin .gtr (.t 9) (.t 13)⟩,
        ⟨(some 15), none, .pick (.t 8) (.c (.bool true)) (.t 14)⟩,
        ⟨(some 16), none, .mv (.t 15)⟩,
        ⟨(some 17), some (16, false), .mv (.t 0)⟩,
        ⟨(some 18), some (16, false), .mv (.t 1)⟩,
        ⟨(some 19), some (16, false), .call 2 (.f 29) [(.t 17), (.t 18)]⟩,
        ⟨(some 20), none, .pick (.t 16) (.c (.bool true)) (.t 19)⟩,
        ⟨(some 5), none, .mv (.t 20)⟩] [0, 1, 5])
    (.cond (.t 5)
      (.seq (.rg [⟨(some 4), none, .mv (.c (.int .i64 152))⟩] [4])
      .ret)
      (.seq (.rg [⟨(some 22), none, .mv (.t 1)⟩,
          ⟨(some 23), none, .mv (.t 0)⟩,
          ⟨(some 24), none, .nilck (.t 23)⟩,
          ⟨(some 25), none, .fad 2 (.t 24)⟩,
          ⟨(some 26), none, .load false 1 (.t 25) false⟩,
          ⟨(some 27), none, .bin .leq (.t 22) (.t 26)⟩,
          ⟨(some 21), none, .mv (.t 27)⟩] [0, 1, 21])
      (.cond (.t 21)
        (.seq (.rg [⟨(some 4), none, .mv (.c (.int .i64 150))⟩] [4])
        .ret)
        .skip)))))
  (.seq (.rg [⟨(some 28), none, .mv (.t 0)⟩,
      ⟨(some 29), none, .mv (.t 1)⟩,
      ⟨(some 30), none, .nilck (.t 28)⟩,
      ⟨(some 31), none, .fad 2 (.t 30)⟩,
      ⟨none, none, .store 1 (.t 31) (.t 29)⟩] [])
  (.seq (.rg [⟨(some 4), none, .mv (.c (.int .i64 0))⟩] [4])
  .ret)))),
  [.t 4]⟩

/- spillway/ring.Held -/
def an32 : Ann := [[1, 2], [2], [1, 2, 5], [2], [2]]
def fn32 : Vs.Fn := ⟨1,
  (.seq (.rg [⟨(some 1), none, .box 2 (.t 0)⟩,
      ⟨(some 2), none, .alloc [(.bool false), (.int .i64 0)]⟩] [1, 2])
  (.seq (.seq (.rg [⟨(some 3), none, .load true 2 (.t 1) false⟩,
      ⟨(some 4), none, .call 2 (.f 46) [(.t 3)]⟩,
      ⟨(some 5), none, .un .not (.t 4)⟩] [1, 2, 5])
  (.cond (.t 5)
    (.seq (.rg [⟨(some 6), none, .build [(.bool false), (.int .i64 0)] [(0, 1, (.c (.bool true)))]⟩,
        ⟨none, none, .store 2 (.t 2) (.t 6)⟩] [2])
    .ret)
    .skip))
  (.seq (.rg [⟨(some 7), none, .load true 2 (.t 1) false⟩,
      ⟨none, none, .store 2 (.t 2) (.t 7)⟩] [2])
  .ret))),
  [.cell 2 true 2]⟩

/- (*spillway/ring.total).num -/
def an33 : Ann := [[0, 2], [0, 2, 3], [0, 2, 3, 4], [2], [2, 4, 31], [2], [2]]
def fn33 : Vs.Fn := ⟨1,
  (.seq (.rg [⟨(some 2), none, .alloc [(.bool false), (.int .i64 0)]⟩] [0, 2])
  (.seq (.rg [⟨(some 5), none, .mv (.t 0)⟩,
      ⟨(some 6), none, .nilck (.t 5)⟩,
      ⟨(some 7), none, .fad 1 (.t 6)⟩,
      ⟨(some 8), none, .load false 1 (.t 7) false⟩,
      ⟨(some 9), none, .cvi .i64 (.t 8)⟩,
      ⟨(some 3), none, .mv (.t 9)⟩] [0, 2, 3])
  (.seq (.rg [⟨(some 10), none, .mv (.t 3)⟩,
      ⟨(some 11), none, .build [(.bool false), (.int .i64 0)] [(1, 1, (.t 10))]⟩,
      ⟨(some 4), none, .alloc [(.bool false), (.int .i64 0)]⟩,
      ⟨none, none, .store 2 (.t 4) (.t 11)⟩] [0, 2, 3, 4])
  (.seq (.seq (.rg [⟨(some 12), none, .mv (.t 0)⟩,
      ⟨(some 13), none, .nilck (.t 12)⟩,
      ⟨(some 14), none, .fad 2 (.t 13)⟩,
      ⟨(some 15), none, .load false 1 (.t 14) false⟩,
      ⟨(some 16), none, .bin .gtr (.t 15) (.c (.int .i64 0))⟩,
      ⟨(some 17), none, .mv (.t 16)⟩,
      ⟨(some 18), some (17, false), .mv (.t 3)⟩,
      ⟨(some 19), some (17, false), .bin .shr (.t 18) (.c (.int .u64 63))⟩,
      ⟨(some 20), some (17, false), .cvi .u64 (.t 19)⟩,
      ⟨(some 21), some (17, false), .mv (.t 0)⟩,
      ⟨(some 22), some (17, false), .nilck (.t 21)⟩,
      ⟨(some 23), some (17, false), .fad 0 (.t 22)⟩,
      ⟨(some 24), some (17, false), .load false 1 (.t 23) false⟩,
      ⟨(some 25), some (17, false), .bin .neq (.t 20) (.t 24)⟩,
      ⟨(some 26), none, .pick (.t 17) (.c (.bool true)) (.t 25)⟩,
      ⟨(some 27), none, .mv (.t 26)⟩,
      ⟨(some 28), some (27, false), .load true 2 (.t 4) false⟩,
      ⟨(some 29), some (27, false), .call 2 (.f 46) [(.t 28)]⟩,
      ⟨(some 30), some (27, false), .un .not (.t 29)⟩,
      ⟨(some 31), none, .pick (.t 27) (.c (.bool true)) (.t 30)⟩] [2, 4, 31])
  (.cond (.t 31)
    (.seq (.rg [⟨(some 32), none, .build [(.bool false), (.int .i64 0)] [(0, 1, (.c (.bool true)))]⟩,
        ⟨none, none, .store 2 (.t 2) (.t 32)⟩] [2])
    .ret)
    .skip))
  (.seq (.rg [⟨(some 33), none, .load true 2 (.t 4) false⟩,
      ⟨none, none, .store 2 (.t 2) (.t 33)⟩] [2])
  .ret))))),
  [.cell 2 true 2]⟩

/- spillway/fix.Div -/
def an34 : Ann := [[2, 3, 4], [2], [2], [2, 3, 4, 15], [2], [4], [2], [2], [2], [4]]
def fn34 : Vs.Fn := ⟨2,
  (.seq (.rg [⟨(some 2), none, .box 2 (.t 0)⟩,
      ⟨(some 3), none, .box 2 (.t 1)⟩,
      ⟨(some 4), none, .alloc [(.bool false), (.int .i64 0)]⟩] [2, 3, 4])
  (.seq (.seq (.rg [⟨(some 5), none, .load true 2 (.t 2) false⟩,
      ⟨(some 6), none, .call 2 (.f 47) [(.t 5)]⟩,
      ⟨(some 7), none, .mv (.t 6)⟩,
      ⟨(some 8), some (7, false), .load true 2 (.t 3) false⟩,
      ⟨(some 9), some (7, false), .call 2 (.f 47) [(.t 8)]⟩,
      ⟨(some 10), none, .pick (.t 7) (.c (.bool true)) (.t 9)⟩,
      ⟨(some 11), none, .mv (.t 10)⟩,
      ⟨(some 12), some (11, false), .fad 1 (.t 3)⟩,
      ⟨(some 13), some (11, false), .load false 1 (.t 12) false⟩,
      ⟨(some 14), some (11, false), .bin .eql (.t 13) (.c (.int .i64 0))⟩,
      ⟨(some 15), none, .pick (.t 11) (.c (.bool true)) (.t 14)⟩] [2, 3, 4, 15])
  (.cond (.t 15)
    (.seq (.rg [⟨(some 16), none, .call 2 (.f 43) []⟩,
        ⟨none, none, .store 2 (.t 4) (.t 16)⟩] [4])
    .ret)
    .skip))
  (.seq (.rg [⟨(some 17), none, .fad 1 (.t 2)⟩,
      ⟨(some 18), none, .load false 1 (.t 17) false⟩,
      ⟨(some 19), none, .bin .lss (.t 18) (.c (.int .i64 0))⟩,
      ⟨(some 20), none, .fad 1 (.t 3)⟩,
      ⟨(some 21), none, .load false 1 (.t 20) false⟩,
      ⟨(some 22), none, .bin .lss (.t 21) (.c (.int .i64 0))⟩,
      ⟨(some 23), none, .eqb true (.t 19) (.t 22)⟩,
      ⟨(some 24), none, .fad 1 (.t 2)⟩,
      ⟨(some 25), none, .load false 1 (.t 24) false⟩,
      ⟨(some 26), none, .call 2 (.f 27) [(.t 25)]⟩,
      ⟨(some 27), none, .fad 1 (.t 3)⟩,
      ⟨(some 28), none, .load false 1 (.t 27) false⟩,
      ⟨(some 29), none, .call 2 (.f 27) [(.t 28)]⟩,
      ⟨(some 30), none, .call 2 (.f 26) [(.t 23), (.t 26), (.c (.int .u64 1000000)), (.t 29)]⟩,
      ⟨none, none, .store 2 (.t 4) (.t 30)⟩] [4])
  .ret))),
  [.cell 4 true 2]⟩

/- slices.Clone[[]spillway/api.Sample,spillway/api.Sample] -/
def an35 : Ann := [[0], [0, 4], [2], [2]]
def fn35 : Vs.Fn := ⟨1,
  (.seq (.rg [⟨(some 2), none, .mv (.c (.slice none 0 0))⟩] [0])
  (.seq (.seq (.rg [⟨(some 3), none, .mv (.t 0)⟩,
      ⟨(some 4), none, .eqn 1 false (.t 3)⟩] [0, 4])
  (.cond (.t 4)
    (.seq (.rg [⟨(some 2), none, .mv (.c (.slice none 0 0))⟩] [2])
    .ret)
    .skip))
  (.seq (.rg [⟨(some 5), none, .bslice 0 3 [(.int .i64 0), (.bool false), (.int .i64 0)] []⟩,
      ⟨(some 6), none, .mv (.t 0)⟩,
      ⟨(some 7), none, .app 3 24 (.t 5) (.t 6)⟩,
      ⟨(some 2), none, .mv (.t 7)⟩] [2])
  .ret))),
  [.t 2]⟩

/- spillway/fix.Sum -/
def an36 : Ann := [[0, 2], [0, 2, 3], [2, 3, 6, 7, 8], [2, 3, 6, 7, 8], [2, 3, 6, 7, 8, 9], [2, 3, 5, 6, 7, 8], [2], [2, 3, 5, 6, 7, 8, 13], [2], [2], [2], [2], [2, 3, 6, 7, 8], [2, 3, 6, 7, 8], [2], [2]]
def fn36B0 : Cd :=
  (.seq (.rg [⟨(some 9), none, .bin .lss (.t 8) (.t 7)⟩] [2, 3, 6, 7, 8, 9])
  (.seq (.cond (.t 9)
    .skip
    (.exit 0))
  (.seq (.block 1
    (.seq (.rg [⟨(some 10), none, .iad 2 (.t 6) (.t 8)⟩,
        ⟨(some 11), none, .load true 2 (.t 10) false⟩,
        ⟨(some 5), none, .alloc [(.bool false), (.int .i64 0)]⟩,
        ⟨none, none, .store 2 (.t 5) (.t 11)⟩] [2, 3, 5, 6, 7, 8])
    (.seq (.seq (.rg [⟨(some 12), none, .load true 2 (.t 5) false⟩,
        ⟨(some 13), none, .call 2 (.f 47) [(.t 12)]⟩] [2, 3, 5, 6, 7, 8, 13])
    (.cond (.t 13)
      (.seq (.rg [⟨(some 14), none, .call 2 (.f 43) []⟩,
          ⟨none, none, .store 2 (.t 2) (.t 14)⟩] [2])
      .ret)
      .skip))
    (.rg [⟨(some 15), none, .load true 2 (.t 3) false⟩,
        ⟨(some 16), none, .fad 1 (.t 5)⟩,
        ⟨(some 17), none, .load false 1 (.t 16) false⟩,
        ⟨(some 18), none, .call 2 (.f 49) [(.t 17)]⟩,
        ⟨(some 19), none, .call 2 (.f 48) [(.t 15), (.t 18)]⟩,
        ⟨none, none, .store 2 (.t 3) (.t 19)⟩] [2, 3, 6, 7, 8]))))
  (.rg [⟨(some 20), none, .bin .add (.t 8) (.c (.int .i64 1))⟩,
      ⟨(some 8), none, .mv (.t 20)⟩] [2, 3, 6, 7, 8]))))
def fn36L0 : Cd := .loop [2, 3, 6, 7, 8] fn36B0
def fn36 : Vs.Fn := ⟨1,
  (.seq (.rg [⟨(some 2), none, .alloc [(.bool false), (.int .i64 0)]⟩] [0, 2])
  (.seq (.rg [⟨(some 3), none, .alloc [(.int .u64 0), (.int .u64 0)]⟩] [0, 2, 3])
  (.seq (.seq (.rg [⟨(some 6), none, .mv (.t 0)⟩,
      ⟨(some 7), none, .len false (.t 6)⟩,
      ⟨(some 8), none, .mv (.c (.int .i64 0))⟩] [2, 3, 6, 7, 8])
  (.block 0
    fn36L0))
  (.seq (.rg [⟨(some 21), none, .load true 2 (.t 3) false⟩,
      ⟨(some 22), none, .call 2 (.f 50) [(.t 21)]⟩,
      ⟨none, none, .store 2 (.t 2) (.t 22)⟩] [2])
  .ret)))),
  [.cell 2 true 2]⟩

/- spillway/fix.Neg -/
def an37 : Ann := [[1, 2], [2], [1, 2, 4], [2], [2], [2]]
def fn37 : Vs.Fn := ⟨1,
  (.seq (.rg [⟨(some 1), none, .box 2 (.t 0)⟩,
      ⟨(some 2), none, .alloc [(.bool false), (.int .i64 0)]⟩] [1, 2])
  (.seq (.seq (.rg [⟨(some 3), none, .load true 2 (.t 1) false⟩,
      ⟨(some 4), none, .call 2 (.f 47) [(.t 3)]⟩] [1, 2, 4])
  (.cond (.t 4)
    (.seq (.rg [⟨(some 5), none, .call 2 (.f 43) []⟩,
        ⟨none, none, .store 2 (.t 2) (.t 5)⟩] [2])
    .ret)
    .skip))
  (.seq (.rg [⟨(some 6), none, .fad 1 (.t 1)⟩,
      ⟨(some 7), none, .load false 1 (.t 6) false⟩,
      ⟨(some 8), none, .un .neg (.t 7)⟩,
      ⟨(some 9), none, .build [(.bool false), (.int .i64 0)] [(1, 1, (.t 8))]⟩,
      ⟨none, none, .store 2 (.t 2) (.t 9)⟩] [2])
  .ret))),
  [.cell 2 true 2]⟩

/- spillway/spillwayref2.Norm -/
def an38 : Ann := [[1, 2], [2], [1, 2, 5], [2], [2], [2]]
def fn38 : Vs.Fn := ⟨1,
  (.seq (.rg [⟨(some 1), none, .box 2 (.t 0)⟩,
      ⟨(some 2), none, .alloc [(.bool false), (.int .i64 0)]⟩] [1, 2])
  (.seq (.seq (.rg [⟨(some 3), none, .load true 2 (.t 1) false⟩,
      ⟨(some 4), none, .call 2 (.f 51) [(.t 3)]⟩,
      ⟨(some 5), none, .un .not (.t 4)⟩] [1, 2, 5])
  (.cond (.t 5)
    (.seq (.rg [⟨(some 6), none, .call 2 (.f 52) []⟩,
        ⟨none, none, .store 2 (.t 2) (.t 6)⟩] [2])
    .ret)
    .skip))
  (.seq (.rg [⟨(some 7), none, .load true 2 (.t 1) false⟩,
      ⟨none, none, .store 2 (.t 2) (.t 7)⟩] [2])
  .ret))),
  [.cell 2 true 2]⟩

/- spillway/spillwayref2.Sum -/
def an39 : Ann := [[0, 2], [0, 2, 3, 4], [0, 2, 3, 4, 5], [0, 2, 3, 4, 5], [0, 2, 3, 4, 5, 9], [2], [0, 2, 3, 4, 5, 24], [2], [2], [0, 2, 3, 4, 5], [0, 2, 3, 4, 5], [0, 2, 3, 4, 5], [0, 2, 3, 4, 5], [2, 3, 4, 60], [2], [2], [2]]
def fn39B0 : Cd :=
  (.seq (.seq (.rg [⟨(some 6), none, .mv (.t 5)⟩,
      ⟨(some 7), none, .mv (.t 0)⟩,
      ⟨(some 8), none, .len false (.t 7)⟩,
      ⟨(some 9), none, .bin .lss (.t 6) (.t 8)⟩] [0, 2, 3, 4, 5, 9])
  (.cond (.t 9)
    .skip
    (.exit 0)))
  (.seq (.block 1
    (.seq (.seq (.rg [⟨(some 12), none, .mv (.t 0)⟩,
        ⟨(some 13), none, .mv (.t 5)⟩,
        ⟨(some 14), none, .iad 2 (.t 12) (.t 13)⟩,
        ⟨(some 15), none, .fad 0 (.t 14)⟩,
        ⟨(some 16), none, .load false 1 (.t 15) false⟩,
        ⟨(some 17), none, .mv (.t 16)⟩,
        ⟨(some 18), some (17, false), .mv (.t 0)⟩,
        ⟨(some 19), some (17, false), .mv (.t 5)⟩,
        ⟨(some 20), some (17, false), .iad 2 (.t 18) (.t 19)⟩,
        ⟨(some 21), some (17, false), .load true 2 (.t 20) false⟩,
        ⟨(some 22), some (17, false), .call 2 (.f 51) [(.t 21)]⟩,
        ⟨(some 23), some (17, false), .un .not (.t 22)⟩,
        ⟨(some 24), none, .pick (.t 17) (.c (.bool true)) (.t 23)⟩] [0, 2, 3, 4, 5, 24])
    (.cond (.t 24)
      (.seq (.rg [⟨(some 25), none, .call 2 (.f 52) []⟩,
          ⟨none, none, .store 2 (.t 2) (.t 25)⟩] [2])
      .ret)
      .skip))
    (.seq (.rg [⟨(some 26), none, .mv (.t 4)⟩,
        ⟨(some 27), none, .mv (.t 0)⟩,
        ⟨(some 28), none, .mv (.t 5)⟩,
        ⟨(some 29), none, .iad 2 (.t 27) (.t 28)⟩,
        ⟨(some 30), none, .fad 1 (.t 29)⟩,
        ⟨(some 31), none, .load false 1 (.t 30) false⟩,
        ⟨(some 32), none, .bin .and (.t 31) (.c (.int .i64 4294967295))⟩,
        ⟨(some 33), none, .bin .add (.t 26) (.t 32)⟩,
        ⟨(some 4), none, .mv (.t 33)⟩] [0, 2, 3, 4, 5])
    (.seq (.rg [⟨(some 34), none, .mv (.t 3)⟩,
        ⟨(some 35), none, .mv (.t 0)⟩,
        ⟨(some 36), none, .mv (.t 5)⟩,
        ⟨(some 37), none, .iad 2 (.t 35) (.t 36)⟩,
        ⟨(some 38), none, .fad 1 (.t 37)⟩,
        ⟨(some 39), none, .load false 1 (.t 38) false⟩,
        ⟨(some 40), none, .bin .shr (.t 39) (.c (.int .u64 32))⟩,
        ⟨(some 41), none, .bin .add (.t 34) (.t 40)⟩,
        ⟨(some 42), none, .mv (.t 4)⟩,
        ⟨(some 43), none, .bin .shr (.t 42) (.c (.int .u64 32))⟩,
        ⟨(some 44), none, .bin .add (.t 41) (.t 43)⟩,
        ⟨(some 3), none, .mv (.t 44)⟩] [0, 2, 3, 4, 5])
    (.rg [⟨(some 45), none, .mv (.t 4)⟩,
        ⟨(some 46), none, .bin .and (.t 45) (.c (.int .i64 4294967295))⟩,
        ⟨(some 4), none, .mv (.t 46)⟩] [0, 2, 3, 4, 5])))))
  (.rg [⟨(some 10), none, .mv (.t 5)⟩,
      ⟨(some 11), none, .bin .add (.t 10) (.c (.int .i64 1))⟩,
      ⟨(some 5), none, .mv (.t 11)⟩] [0, 2, 3, 4, 5])))
def fn39L0 : Cd := .loop [0, 2, 3, 4, 5] fn39B0
def fn39 : Vs.Fn := ⟨1,
  (.seq (.rg [⟨(some 2), none, .alloc [(.bool false), (.int .i64 0)]⟩] [0, 2])
  (.seq (.rg [⟨(some 3), none, .mv (.c (.int .i64 0))⟩,
      ⟨(some 4), none, .mv (.c (.int .i64 0))⟩] [0, 2, 3, 4])
  (.seq (.seq (.rg [⟨(some 5), none, .mv (.c (.int .i64 0))⟩] [0, 2, 3, 4, 5])
  (.block 0
    fn39L0))
  (.seq (.seq (.rg [⟨(some 47), none, .mv (.t 3)⟩,
      ⟨(some 48), none, .bin .lss (.t 47) (.c (.int .i64 (-2147483648)))⟩,
      ⟨(some 49), none, .mv (.t 48)⟩,
      ⟨(some 50), some (49, false), .mv (.t 3)⟩,
      ⟨(some 51), some (49, false), .bin .geq (.t 50) (.c (.int .i64 2147483648))⟩,
      ⟨(some 52), none, .pick (.t 49) (.c (.bool true)) (.t 51)⟩,
      ⟨(some 53), none, .mv (.t 52)⟩,
      ⟨(some 54), some (53, false), .mv (.t 3)⟩,
      ⟨(some 55), some (53, false), .bin .eql (.t 54) (.c (.int .i64 (-2147483648)))⟩,
      ⟨(some 56), some (53, false), .mv (.t 55)⟩,
      ⟨(some 57), some (56, true), .mv (.t 4)⟩,
      ⟨(some 58), some (56, true), .bin .eql (.t 57) (.c (.int .i64 0))⟩,
      ⟨(some 59), some (53, false), .pick (.t 56) (.t 58) (.c (.bool false))⟩,
      ⟨(some 60), none, .pick (.t 53) (.c (.bool true)) (.t 59)⟩] [2, 3, 4, 60])
  (.cond (.t 60)
    (.seq (.rg [⟨(some 61), none, .call 2 (.f 52) []⟩,
        ⟨none, none, .store 2 (.t 2) (.t 61)⟩] [2])
    .ret)
    .skip))
  (.seq (.rg [⟨(some 62), none, .mv (.t 3)⟩,
      ⟨(some 63), none, .bin .shl (.t 62) (.c (.int .u64 32))⟩,
      ⟨(some 64), none, .mv (.t 4)⟩,
      ⟨(some 65), none, .bin .or (.t 63) (.t 64)⟩,
      ⟨(some 66), none, .build [(.bool false), (.int .i64 0)] [(1, 1, (.t 65))]⟩,
      ⟨none, none, .store 2 (.t 2) (.t 66)⟩] [2])
  .ret))))),
  [.cell 2 true 2]⟩

/- spillway/spillwayref15.Values -/
def an40 : Ann := [[0], [0, 3], [0, 3, 4], [0, 3, 4], [0, 3, 4, 8], [2], [0, 3, 4], [0, 3, 4], [2]]
def fn40B0 : Cd :=
  (.seq (.seq (.rg [⟨(some 5), none, .mv (.t 4)⟩,
      ⟨(some 6), none, .mv (.t 0)⟩,
      ⟨(some 7), none, .len false (.t 6)⟩,
      ⟨(some 8), none, .bin .lss (.t 5) (.t 7)⟩] [0, 3, 4, 8])
  (.cond (.t 8)
    .skip
    (.exit 0)))
  (.seq (.block 1
    (.rg [⟨(some 11), none, .mv (.t 3)⟩,
        ⟨(some 12), none, .mv (.t 0)⟩,
        ⟨(some 13), none, .mv (.t 4)⟩,
        ⟨(some 14), none, .iad 3 (.t 12) (.t 13)⟩,
        ⟨(some 15), none, .fad 1 (.t 14)⟩,
        ⟨(some 16), none, .load true 2 (.t 15) false⟩,
        ⟨(some 17), none, .call 2 (.f 38) [(.t 16)]⟩,
        ⟨(some 18), none, .bslice 1 2 [(.bool false), (.int .i64 0)] [(0, (.t 17))]⟩,
        ⟨(some 19), none, .app 2 16 (.t 11) (.t 18)⟩,
        ⟨(some 3), none, .mv (.t 19)⟩] [0, 3, 4]))
  (.rg [⟨(some 9), none, .mv (.t 4)⟩,
      ⟨(some 10), none, .bin .add (.t 9) (.c (.int .i64 1))⟩,
      ⟨(some 4), none, .mv (.t 10)⟩] [0, 3, 4])))
def fn40L0 : Cd := .loop [0, 3, 4] fn40B0
def fn40 : Vs.Fn := ⟨1,
  (.seq (.rg [⟨(some 2), none, .mv (.c (.slice none 0 0))⟩] [0])
  (.seq (.rg [⟨(some 3), none, .mv (.c (.slice none 0 0))⟩] [0, 3])
  (.seq (.seq (.rg [⟨(some 4), none, .mv (.c (.int .i64 0))⟩] [0, 3, 4])
  (.block 0
    fn40L0))
  (.seq (.rg [⟨(some 20), none, .mv (.t 3)⟩,
      ⟨(some 2), none, .mv (.t 20)⟩] [2])
  .ret)))),
  [.t 2]⟩

/- spillway/spillwayref15.Over -/
def an41 : Ann := [[0, 1, 2, 6], [0], [0, 1, 2, 6, 8], [0, 1, 2, 6, 8, 9], [0, 1, 2, 6, 8, 9, 16], [0, 1, 2, 6, 8, 9, 16, 18], [0, 1, 2, 6, 8, 9, 16, 18], [0, 1, 2, 6, 8, 9, 16, 18], [0, 1, 2, 6, 8, 9, 16, 18], [0, 1, 2, 6, 8, 9, 16, 18], [0, 1, 2, 6, 8, 9, 16, 18], [0, 1, 2, 6, 8, 9, 26], [6, 7], [0, 1, 2, 6, 8, 9, 16, 28], [0, 1, 2, 6, 8, 9, 16, 28], [0, 1, 2, 6, 8, 9, 28], [0, 1, 2, 6, 8, 9, 33], [6, 7], [6, 7], [2], [1, 2, 6, 8, 9, 10], [1, 2, 6, 8, 9, 10, 40], [1, 2, 6, 8, 9, 10, 40, 41], [2], [6, 7], [1, 2, 6, 8, 9, 10, 40, 45], [2], [2], [2], [6, 7], [1, 2, 6, 8, 9, 10, 40, 52], [2], [6, 7], [1, 2, 6, 8, 9, 10, 40, 56], [6, 7], [1, 2, 6, 8, 9, 10, 40, 63], [1, 2, 6, 8, 9, 10, 40, 63], [2], [6, 7], [2, 6, 8, 9, 10, 40, 72], [6, 7], [2, 6, 8, 9, 10, 75], [2], [2], [6, 7], [2], [6, 7]]
def fn41 : Vs.Fn := ⟨3,
  (.seq (.rg [⟨(some 6), none, .alloc [(.bool false), (.int .i64 0)]⟩,
      ⟨(some 7), none, .mv (.c (.bool false))⟩] [0, 1, 2, 6])
  (.seq (.rg [⟨(some 12), none, .mv (.t 0)⟩,
      ⟨(some 13), none, .call 0 (.f 40) [(.t 12)]⟩,
      ⟨(some 8), none, .mv (.t 13)⟩] [0, 1, 2, 6, 8])
  (.seq (.rg [⟨(some 14), none, .mv (.t 8)⟩,
      ⟨(some 15), none, .len false (.t 14)⟩,
      ⟨(some 9), none, .mv (.t 15)⟩] [0, 1, 2, 6, 8, 9])
  (.seq (.seq (.rg [⟨(some 16), none, .mv (.t 1)⟩] [0, 1, 2, 6, 8, 9, 16])
  (.block 0
    (.seq (.seq (.rg [⟨(some 19), none, .bin .eql (.t 16) (.c (.string ⟨#[115, 117, 109]⟩))⟩,
        ⟨(some 18), none, .mv (.t 19)⟩] [0, 1, 2, 6, 8, 9, 16, 18])
    (.cond (.t 18)
      .skip
      (.seq (.rg [⟨(some 20), none, .bin .eql (.t 16) (.c (.string ⟨#[97, 118, 103]⟩))⟩,
          ⟨(some 18), none, .mv (.t 20)⟩] [0, 1, 2, 6, 8, 9, 16, 18])
      (.cond (.t 18)
        .skip
        (.seq (.rg [⟨(some 21), none, .bin .eql (.t 16) (.c (.string ⟨#[99, 111, 117, 110, 116]⟩))⟩,
            ⟨(some 18), none, .mv (.t 21)⟩] [0, 1, 2, 6, 8, 9, 16, 18])
        (.cond (.t 18)
          .skip
          (.seq (.rg [⟨(some 22), none, .bin .eql (.t 16) (.c (.string ⟨#[108, 97, 115, 116]⟩))⟩,
              ⟨(some 18), none, .mv (.t 22)⟩] [0, 1, 2, 6, 8, 9, 16, 18])
          (.cond (.t 18)
            .skip
            (.seq (.rg [⟨(some 23), none, .bin .eql (.t 16) (.c (.string ⟨#[109, 105, 110]⟩))⟩,
                ⟨(some 18), none, .mv (.t 23)⟩] [0, 1, 2, 6, 8, 9, 16, 18])
            (.cond (.t 18)
              .skip
              (.rg [⟨(some 24), none, .bin .eql (.t 16) (.c (.string ⟨#[109, 97, 120]⟩))⟩,
                  ⟨(some 18), none, .mv (.t 24)⟩] [0, 1, 2, 6, 8, 9, 16, 18])))))))))))
    (.cond (.t 18)
      (.seq (.rg [⟨(some 25), none, .mv (.t 9)⟩,
          ⟨(some 26), none, .bin .eql (.t 25) (.c (.int .i64 0))⟩] [0, 1, 2, 6, 8, 9, 26])
      (.cond (.t 26)
        (.seq (.rg [⟨(some 27), none, .build [(.bool false), (.int .i64 0)] []⟩,
            ⟨none, none, .store 2 (.t 6) (.t 27)⟩,
            ⟨(some 7), none, .mv (.c (.bool false))⟩] [6, 7])
        .ret)
        .skip))
      (.seq (.seq (.rg [⟨(some 29), none, .bin .eql (.t 16) (.c (.string ⟨#[105, 110, 99, 114, 101, 97, 115, 101]⟩))⟩,
          ⟨(some 28), none, .mv (.t 29)⟩] [0, 1, 2, 6, 8, 9, 16, 28])
      (.cond (.t 28)
        .skip
        (.seq (.rg [⟨(some 30), none, .bin .eql (.t 16) (.c (.string ⟨#[114, 97, 116, 101]⟩))⟩,
            ⟨(some 28), none, .mv (.t 30)⟩] [0, 1, 2, 6, 8, 9, 16, 28])
        (.cond (.t 28)
          .skip
          (.rg [⟨(some 31), none, .bin .eql (.t 16) (.c (.string ⟨#[100, 101, 108, 116, 97]⟩))⟩,
              ⟨(some 28), none, .mv (.t 31)⟩] [0, 1, 2, 6, 8, 9, 28])))))
      (.cond (.t 28)
        (.seq (.rg [⟨(some 32), none, .mv (.t 9)⟩,
            ⟨(some 33), none, .bin .lss (.t 32) (.c (.int .i64 2))⟩] [0, 1, 2, 6, 8, 9, 33])
        (.cond (.t 33)
          (.seq (.rg [⟨(some 34), none, .build [(.bool false), (.int .i64 0)] []⟩,
              ⟨none, none, .store 2 (.t 6) (.t 34)⟩,
              ⟨(some 7), none, .mv (.c (.bool false))⟩] [6, 7])
          .ret)
          .skip))
        (.seq (.rg [⟨(some 17), none, .build [(.bool false), (.int .i64 0)] []⟩,
            ⟨none, none, .store 2 (.t 6) (.t 17)⟩,
            ⟨(some 7), none, .mv (.c (.bool false))⟩] [6, 7])
        .ret)))))))
  (.seq (.rg [⟨(some 36), none, .mv (.t 0)⟩,
      ⟨(some 37), none, .call 2 (.f 53) [(.t 36)]⟩,
      ⟨(some 35), none, .mv (.t 37)⟩,
      ⟨(some 38), none, .ext (.t 35) 0⟩,
      ⟨(some 39), none, .ext (.t 35) 1⟩,
      ⟨(some 10), none, .alloc [(.bool false), (.int .i64 0)]⟩,
      ⟨none, none, .store 2 (.t 10) (.t 38)⟩,
      ⟨(some 11), none, .mv (.t 39)⟩] [1, 2, 6, 8, 9, 10])
  (.seq (.seq (.rg [⟨(some 40), none, .mv (.t 1)⟩] [1, 2, 6, 8, 9, 10, 40])
  (.block 1
    (.seq (.rg [⟨(some 42), none, .bin .eql (.t 40) (.c (.string ⟨#[115, 117, 109]⟩))⟩,
        ⟨(some 41), none, .mv (.t 42)⟩] [1, 2, 6, 8, 9, 10, 40, 41])
    (.cond (.t 41)
      (.seq (.rg [⟨(some 43), none, .mv (.t 8)⟩,
          ⟨(some 44), none, .call 2 (.f 39) [(.t 43)]⟩,
          ⟨none, none, .store 2 (.t 6) (.t 44)⟩,
          ⟨(some 7), none, .mv (.c (.bool true))⟩] [6, 7])
      .ret)
      (.seq (.rg [⟨(some 46), none, .bin .eql (.t 40) (.c (.string ⟨#[97, 118, 103]⟩))⟩,
          ⟨(some 45), none, .mv (.t 46)⟩] [1, 2, 6, 8, 9, 10, 40, 45])
      (.cond (.t 45)
        (.seq (.rg [⟨(some 47), none, .mv (.t 8)⟩,
            ⟨(some 48), none, .call 2 (.f 39) [(.t 47)]⟩,
            ⟨(some 49), none, .mv (.t 9)⟩,
            ⟨(some 50), none, .call 2 (.f 55) [(.t 49)]⟩,
            ⟨(some 51), none, .call 2 (.f 54) [(.t 48), (.t 50)]⟩,
            ⟨none, none, .store 2 (.t 6) (.t 51)⟩,
            ⟨(some 7), none, .mv (.c (.bool true))⟩] [6, 7])
        .ret)
        (.seq (.rg [⟨(some 53), none, .bin .eql (.t 40) (.c (.string ⟨#[99, 111, 117, 110, 116]⟩))⟩,
            ⟨(some 52), none, .mv (.t 53)⟩] [1, 2, 6, 8, 9, 10, 40, 52])
        (.cond (.t 52)
          (.seq (.rg [⟨(some 54), none, .mv (.t 9)⟩,
              ⟨(some 55), none, .call 2 (.f 55) [(.t 54)]⟩,
              ⟨none, none, .store 2 (.t 6) (.t 55)⟩,
              ⟨(some 7), none, .mv (.c (.bool true))⟩] [6, 7])
          .ret)
          (.seq (.rg [⟨(some 57), none, .bin .eql (.t 40) (.c (.string ⟨#[108, 97, 115, 116]⟩))⟩,
              ⟨(some 56), none, .mv (.t 57)⟩] [1, 2, 6, 8, 9, 10, 40, 56])
          (.cond (.t 56)
            (.seq (.rg [⟨(some 58), none, .mv (.t 8)⟩,
                ⟨(some 59), none, .mv (.t 9)⟩,
                ⟨(some 60), none, .bin .sub (.t 59) (.c (.int .i64 1))⟩,
                ⟨(some 61), none, .iad 2 (.t 58) (.t 60)⟩,
                ⟨(some 62), none, .load true 2 (.t 61) false⟩,
                ⟨none, none, .store 2 (.t 6) (.t 62)⟩,
                ⟨(some 7), none, .mv (.c (.bool true))⟩] [6, 7])
            .ret)
            (.seq (.seq (.rg [⟨(some 64), none, .bin .eql (.t 40) (.c (.string ⟨#[109, 105, 110]⟩))⟩,
                ⟨(some 63), none, .mv (.t 64)⟩] [1, 2, 6, 8, 9, 10, 40, 63])
            (.cond (.t 63)
              .skip
              (.rg [⟨(some 65), none, .bin .eql (.t 40) (.c (.string ⟨#[109, 97, 120]⟩))⟩,
                  ⟨(some 63), none, .mv (.t 65)⟩] [1, 2, 6, 8, 9, 10, 40, 63])))
            (.cond (.t 63)
              (.seq (.rg [⟨(some 66), none, .mv (.t 8)⟩,
                  ⟨(some 67), none, .mv (.t 1)⟩,
                  ⟨(some 68), none, .bin .eql (.t 67) (.c (.string ⟨#[109, 97, 120]⟩))⟩,
                  ⟨(some 69), none, .call 2 (.f 56) [(.t 66), (.t 68)]⟩,
                  ⟨(some 70), none, .ext (.t 69) 0⟩,
                  ⟨(some 71), none, .ext (.t 69) 1⟩,
                  ⟨none, none, .store 2 (.t 6) (.t 70)⟩,
                  ⟨(some 7), none, .mv (.t 71)⟩] [6, 7])
              .ret)
              (.seq (.rg [⟨(some 73), none, .bin .eql (.t 40) (.c (.string ⟨#[105, 110, 99, 114, 101, 97, 115, 101]⟩))⟩,
                  ⟨(some 72), none, .mv (.t 73)⟩] [2, 6, 8, 9, 10, 40, 72])
              (.cond (.t 72)
                (.seq (.rg [⟨(some 74), none, .load true 2 (.t 10) false⟩,
                    ⟨none, none, .store 2 (.t 6) (.t 74)⟩,
                    ⟨(some 7), none, .mv (.c (.bool true))⟩] [6, 7])
                .ret)
                (.seq (.rg [⟨(some 76), none, .bin .eql (.t 40) (.c (.string ⟨#[114, 97, 116, 101]⟩))⟩,
                    ⟨(some 75), none, .mv (.t 76)⟩] [2, 6, 8, 9, 10, 75])
                (.cond (.t 75)
                  (.seq (.rg [⟨(some 77), none, .load true 2 (.t 10) false⟩,
                      ⟨(some 78), none, .mv (.t 2)⟩,
                      ⟨(some 79), none, .call 2 (.f 55) [(.t 78)]⟩,
                      ⟨(some 80), none, .call 2 (.f 54) [(.t 77), (.t 79)]⟩,
                      ⟨none, none, .store 2 (.t 6) (.t 80)⟩,
                      ⟨(some 7), none, .mv (.c (.bool true))⟩] [6, 7])
                  .ret)
                  .skip))))))))))))))))
  (.seq (.rg [⟨(some 81), none, .mv (.t 8)⟩,
      ⟨(some 82), none, .mv (.t 9)⟩,
      ⟨(some 83), none, .bin .sub (.t 82) (.c (.int .i64 1))⟩,
      ⟨(some 84), none, .iad 2 (.t 81) (.t 83)⟩,
      ⟨(some 85), none, .load true 2 (.t 84) false⟩,
      ⟨(some 86), none, .mv (.t 8)⟩,
      ⟨(some 87), none, .iad 2 (.t 86) (.c (.int .i64 0))⟩,
      ⟨(some 88), none, .load true 2 (.t 87) false⟩,
      ⟨(some 89), none, .call 2 (.f 57) [(.t 85), (.t 88)]⟩,
      ⟨none, none, .store 2 (.t 6) (.t 89)⟩,
      ⟨(some 7), none, .mv (.c (.bool true))⟩] [6, 7])
  .ret))))))),
  [.cell 6 true 2, .t 7]⟩

/- math/bits.Mul64 -/
def an42 : Ann := [[0, 1], [0, 1, 6], [0, 1, 6, 7], [0, 1, 6, 7, 8], [0, 1, 6, 7, 8, 9], [0, 1, 6, 7, 8, 9, 10], [0, 1, 6, 7, 9, 11], [0, 1, 6, 7, 9, 11, 12], [0, 1, 6, 7, 9, 12, 13], [0, 1, 7, 9, 12, 13], [0, 1, 4], [4, 5]]
def fn42 : Vs.Fn := ⟨2,
  (.seq (.rg [⟨(some 4), none, .mv (.c (.int .u64 0))⟩,
      ⟨(some 5), none, .mv (.c (.int .u64 0))⟩] [0, 1])
  (.seq (.rg [⟨(some 14), none, .mv (.t 0)⟩,
      ⟨(some 15), none, .bin .and (.t 14) (.c (.int .u64 4294967295))⟩,
      ⟨(some 6), none, .mv (.t 15)⟩] [0, 1, 6])
  (.seq (.rg [⟨(some 16), none, .mv (.t 0)⟩,
      ⟨(some 17), none, .bin .shr (.t 16) (.c (.int .u64 32))⟩,
      ⟨(some 7), none, .mv (.t 17)⟩] [0, 1, 6, 7])
  (.seq (.rg [⟨(some 18), none, .mv (.t 1)⟩,
      ⟨(some 19), none, .bin .and (.t 18) (.c (.int .u64 4294967295))⟩,
      ⟨(some 8), none, .mv (.t 19)⟩] [0, 1, 6, 7, 8])
  (.seq (.rg [⟨(some 20), none, .mv (.t 1)⟩,
      ⟨(some 21), none, .bin .shr (.t 20) (.c (.int .u64 32))⟩,
      ⟨(some 9), none, .mv (.t 21)⟩] [0, 1, 6, 7, 8, 9])
  (.seq (.rg [⟨(some 22), none, .mv (.t 6)⟩,
      ⟨(some 23), none, .mv (.t 8)⟩,
      ⟨(some 24), none, .bin .mul (.t 22) (.t 23)⟩,
      ⟨(some 10), none, .mv (.t 24)⟩] [0, 1, 6, 7, 8, 9, 10])
  (.seq (.rg [⟨(some 25), none, .mv (.t 7)⟩,
      ⟨(some 26), none, .mv (.t 8)⟩,
      ⟨(some 27), none, .bin .mul (.t 25) (.t 26)⟩,
      ⟨(some 28), none, .mv (.t 10)⟩,
      ⟨(some 29), none, .bin .shr (.t 28) (.c (.int .u64 32))⟩,
      ⟨(some 30), none, .bin .add (.t 27) (.t 29)⟩,
      ⟨(some 11), none, .mv (.t 30)⟩] [0, 1, 6, 7, 9, 11])
  (.seq (.rg [⟨(some 31), none, .mv (.t 11)⟩,
      ⟨(some 32), none, .bin .and (.t 31) (.c (.int .u64 4294967295))⟩,
      ⟨(some 12), none, .mv (.t 32)⟩] [0, 1, 6, 7, 9, 11, 12])
  (.seq (.rg [⟨(some 33), none, .mv (.t 11)⟩,
      ⟨(some 34), none, .bin .shr (.t 33) (.c (.int .u64 32))⟩,
      ⟨(some 13), none, .mv (.t 34)⟩] [0, 1, 6, 7, 9, 12, 13])
  (.seq (.rg [⟨(some 35), none, .mv (.t 12)⟩,
      ⟨(some 36), none, .mv (.t 6)⟩,
      ⟨(some 37), none, .mv (.t 9)⟩,
      ⟨(some 38), none, .bin .mul (.t 36) (.t 37)⟩,
      ⟨(some 39), none, .bin .add (.t 35) (.t 38)⟩,
      ⟨(some 12), none, .mv (.t 39)⟩] [0, 1, 7, 9, 12, 13])
  (.seq (.rg [⟨(some 40), none, .mv (.t 7)⟩,
      ⟨(some 41), none, .mv (.t 9)⟩,
      ⟨(some 42), none, .bin .mul (.t 40) (.t 41)⟩,
      ⟨(some 43), none, .mv (.t 13)⟩,
      ⟨(some 44), none, .bin .add (.t 42) (.t 43)⟩,
      ⟨(some 45), none, .mv (.t 12)⟩,
      ⟨(some 46), none, .bin .shr (.t 45) (.c (.int .u64 32))⟩,
      ⟨(some 47), none, .bin .add (.t 44) (.t 46)⟩,
      ⟨(some 4), none, .mv (.t 47)⟩] [0, 1, 4])
  (.seq (.rg [⟨(some 48), none, .mv (.t 0)⟩,
      ⟨(some 49), none, .mv (.t 1)⟩,
      ⟨(some 50), none, .bin .mul (.t 48) (.t 49)⟩,
      ⟨(some 5), none, .mv (.t 50)⟩] [4, 5])
  .ret)))))))))))),
  [.t 4, .t 5]⟩

/- spillway/fix.ovf -/
def an43 : Ann := [[0], [0]]
def fn43 : Vs.Fn := ⟨0,
  (.seq (.rg [⟨(some 0), none, .alloc [(.bool false), (.int .i64 0)]⟩] [0])
  (.seq (.rg [⟨(some 1), none, .build [(.bool false), (.int .i64 0)] [(0, 1, (.c (.bool true)))]⟩,
      ⟨none, none, .store 2 (.t 0) (.t 1)⟩] [0])
  .ret)),
  [.cell 0 true 2]⟩

/- math/bits.Div64 -/
def an44 : Ann := [[0, 1, 2], [0, 1, 2, 20], [0, 1, 2], [0, 1, 2, 24], [0, 1, 2], [0, 1, 2, 27], [6, 7], [2], [0, 1, 2, 8], [0, 1, 2, 8], [0, 1, 2, 8, 9], [0, 1, 2, 8, 9, 10], [1, 2, 8, 9, 10, 11], [2, 8, 9, 10, 11, 12], [2, 8, 9, 10, 11, 12, 13], [2, 8, 9, 10, 11, 13, 14], [2, 8, 9, 10, 11, 13, 14, 15], [2, 8, 9, 10, 11, 13, 14, 15, 16], [2, 8, 9, 10, 11, 13, 14, 15, 16], [2, 8, 9, 10, 11, 13, 14, 15, 16, 78], [2, 8, 9, 10, 11, 13, 14, 15, 16], [2, 8, 9, 10, 11, 13, 14, 15, 16], [2, 8, 9, 10, 11, 13, 14, 15, 16, 85], [2, 8, 9, 10, 14, 15, 17], [2, 8, 9, 10, 14, 15, 17, 18], [2, 8, 9, 10, 14, 15, 16, 17, 18], [2, 8, 9, 10, 14, 15, 16, 17, 18], [2, 8, 9, 10, 14, 15, 16, 17, 18, 113], [2, 8, 9, 10, 14, 15, 16, 17, 18], [2, 8, 9, 10, 14, 15, 16, 17, 18], [2, 8, 9, 10, 14, 15, 16, 17, 18, 120], [6, 7]]
def fn44B0 : Cd :=
  (.seq (.seq (.rg [⟨(some 67), none, .mv (.t 15)⟩,
      ⟨(some 68), none, .bin .geq (.t 67) (.c (.int .u64 4294967296))⟩,
      ⟨(some 69), none, .mv (.t 68)⟩,
      ⟨(some 70), some (69, false), .mv (.t 15)⟩,
      ⟨(some 71), some (69, false), .mv (.t 10)⟩,
      ⟨(some 72), some (69, false), .bin .mul (.t 70) (.t 71)⟩,
      ⟨(some 73), some (69, false), .mv (.t 16)⟩,
      ⟨(some 74), some (69, false), .bin .mul (.c (.int .u64 4294967296)) (.t 73)⟩,
      ⟨(some 75), some (69, false), .mv (.t 13)⟩,
      ⟨(some 76), some (69, false), .bin .add (.t 74) (.t 75)⟩,
      ⟨(some 77), some (69, false), .bin .gtr (.t 72) (.t 76)⟩,
      ⟨(some 78), none, .pick (.t 69) (.c (.bool true)) (.t 77)⟩] [2, 8, 9, 10, 11, 13, 14, 15, 16, 78])
  (.cond (.t 78)
    .skip
    (.exit 0)))
  (.block 1
    (.seq (.rg [⟨(some 79), none, .mv (.t 15)⟩,
        ⟨(some 80), none, .bin .sub (.t 79) (.c (.int .u64 1))⟩,
        ⟨(some 15), none, .mv (.t 80)⟩] [2, 8, 9, 10, 11, 13, 14, 15, 16])
    (.seq (.rg [⟨(some 81), none, .mv (.t 16)⟩,
        ⟨(some 82), none, .mv (.t 9)⟩,
        ⟨(some 83), none, .bin .add (.t 81) (.t 82)⟩,
        ⟨(some 16), none, .mv (.t 83)⟩] [2, 8, 9, 10, 11, 13, 14, 15, 16])
    (.seq (.rg [⟨(some 84), none, .mv (.t 16)⟩,
        ⟨(some 85), none, .bin .geq (.t 84) (.c (.int .u64 4294967296))⟩] [2, 8, 9, 10, 11, 13, 14, 15, 16, 85])
    (.cond (.t 85)
      (.exit 0)
      .skip))))))
def fn44L0 : Cd := .loop [2, 8, 9, 10, 11, 13, 14, 15, 16] fn44B0
def fn44B1 : Cd :=
  (.seq (.seq (.rg [⟨(some 102), none, .mv (.t 18)⟩,
      ⟨(some 103), none, .bin .geq (.t 102) (.c (.int .u64 4294967296))⟩,
      ⟨(some 104), none, .mv (.t 103)⟩,
      ⟨(some 105), some (104, false), .mv (.t 18)⟩,
      ⟨(some 106), some (104, false), .mv (.t 10)⟩,
      ⟨(some 107), some (104, false), .bin .mul (.t 105) (.t 106)⟩,
      ⟨(some 108), some (104, false), .mv (.t 16)⟩,
      ⟨(some 109), some (104, false), .bin .mul (.c (.int .u64 4294967296)) (.t 108)⟩,
      ⟨(some 110), some (104, false), .mv (.t 14)⟩,
      ⟨(some 111), some (104, false), .bin .add (.t 109) (.t 110)⟩,
      ⟨(some 112), some (104, false), .bin .gtr (.t 107) (.t 111)⟩,
      ⟨(some 113), none, .pick (.t 104) (.c (.bool true)) (.t 112)⟩] [2, 8, 9, 10, 14, 15, 16, 17, 18, 113])
  (.cond (.t 113)
    .skip
    (.exit 2)))
  (.block 3
    (.seq (.rg [⟨(some 114), none, .mv (.t 18)⟩,
        ⟨(some 115), none, .bin .sub (.t 114) (.c (.int .u64 1))⟩,
        ⟨(some 18), none, .mv (.t 115)⟩] [2, 8, 9, 10, 14, 15, 16, 17, 18])
    (.seq (.rg [⟨(some 116), none, .mv (.t 16)⟩,
        ⟨(some 117), none, .mv (.t 9)⟩,
        ⟨(some 118), none, .bin .add (.t 116) (.t 117)⟩,
        ⟨(some 16), none, .mv (.t 118)⟩] [2, 8, 9, 10, 14, 15, 16, 17, 18])
    (.seq (.rg [⟨(some 119), none, .mv (.t 16)⟩,
        ⟨(some 120), none, .bin .geq (.t 119) (.c (.int .u64 4294967296))⟩] [2, 8, 9, 10, 14, 15, 16, 17, 18, 120])
    (.cond (.t 120)
      (.exit 2)
      .skip))))))
def fn44L1 : Cd := .loop [2, 8, 9, 10, 14, 15, 16, 17, 18] fn44B1
def fn44 : Vs.Fn := ⟨3,
  (.seq (.rg [⟨(some 6), none, .mv (.c (.int .u64 0))⟩,
      ⟨(some 7), none, .mv (.c (.int .u64 0))⟩] [0, 1, 2])
  (.seq (.seq (.rg [⟨(some 19), none, .mv (.t 2)⟩,
      ⟨(some 20), none, .bin .eql (.t 19) (.c (.int .u64 0))⟩] [0, 1, 2, 20])
  (.cond (.t 20)
    .bad
    .skip))
  (.seq (.seq (.rg [⟨(some 22), none, .mv (.t 2)⟩,
      ⟨(some 23), none, .mv (.t 0)⟩,
      ⟨(some 24), none, .bin .leq (.t 22) (.t 23)⟩] [0, 1, 2, 24])
  (.cond (.t 24)
    .bad
    .skip))
  (.seq (.seq (.rg [⟨(some 26), none, .mv (.t 0)⟩,
      ⟨(some 27), none, .bin .eql (.t 26) (.c (.int .u64 0))⟩] [0, 1, 2, 27])
  (.cond (.t 27)
    (.seq (.rg [⟨(some 28), none, .mv (.t 1)⟩,
        ⟨(some 29), none, .mv (.t 2)⟩,
        ⟨(some 30), none, .bin .quo (.t 28) (.t 29)⟩,
        ⟨(some 31), none, .mv (.t 1)⟩,
        ⟨(some 32), none, .mv (.t 2)⟩,
        ⟨(some 33), none, .bin .rem (.t 31) (.t 32)⟩,
        ⟨(some 6), none, .mv (.t 30)⟩,
        ⟨(some 7), none, .mv (.t 33)⟩] [6, 7])
    .ret)
    .skip))
  (.seq (.rg [⟨(some 34), none, .mv (.t 2)⟩,
      ⟨(some 35), none, .call 2 (.f 58) [(.t 34)]⟩,
      ⟨(some 36), none, .cvi .u64 (.t 35)⟩,
      ⟨(some 8), none, .mv (.t 36)⟩] [0, 1, 2, 8])
  (.seq (.rg [⟨(some 37), none, .mv (.t 2)⟩,
      ⟨(some 38), none, .mv (.t 8)⟩,
      ⟨(some 39), none, .bin .shl (.t 37) (.t 38)⟩,
      ⟨(some 2), none, .mv (.t 39)⟩] [0, 1, 2, 8])
  (.seq (.rg [⟨(some 40), none, .mv (.t 2)⟩,
      ⟨(some 41), none, .bin .shr (.t 40) (.c (.int .u64 32))⟩,
      ⟨(some 9), none, .mv (.t 41)⟩] [0, 1, 2, 8, 9])
  (.seq (.rg [⟨(some 42), none, .mv (.t 2)⟩,
      ⟨(some 43), none, .bin .and (.t 42) (.c (.int .u64 4294967295))⟩,
      ⟨(some 10), none, .mv (.t 43)⟩] [0, 1, 2, 8, 9, 10])
  (.seq (.rg [⟨(some 44), none, .mv (.t 0)⟩,
      ⟨(some 45), none, .mv (.t 8)⟩,
      ⟨(some 46), none, .bin .shl (.t 44) (.t 45)⟩,
      ⟨(some 47), none, .mv (.t 1)⟩,
      ⟨(some 48), none, .mv (.t 8)⟩,
      ⟨(some 49), none, .bin .sub (.c (.int .u64 64)) (.t 48)⟩,
      ⟨(some 50), none, .bin .shr (.t 47) (.t 49)⟩,
      ⟨(some 51), none, .bin .or (.t 46) (.t 50)⟩,
      ⟨(some 11), none, .mv (.t 51)⟩] [1, 2, 8, 9, 10, 11])
  (.seq (.rg [⟨(some 52), none, .mv (.t 1)⟩,
      ⟨(some 53), none, .mv (.t 8)⟩,
      ⟨(some 54), none, .bin .shl (.t 52) (.t 53)⟩,
      ⟨(some 12), none, .mv (.t 54)⟩] [2, 8, 9, 10, 11, 12])
  (.seq (.rg [⟨(some 55), none, .mv (.t 12)⟩,
      ⟨(some 56), none, .bin .shr (.t 55) (.c (.int .u64 32))⟩,
      ⟨(some 13), none, .mv (.t 56)⟩] [2, 8, 9, 10, 11, 12, 13])
  (.seq (.rg [⟨(some 57), none, .mv (.t 12)⟩,
      ⟨(some 58), none, .bin .and (.t 57) (.c (.int .u64 4294967295))⟩,
      ⟨(some 14), none, .mv (.t 58)⟩] [2, 8, 9, 10, 11, 13, 14])
  (.seq (.rg [⟨(some 59), none, .mv (.t 11)⟩,
      ⟨(some 60), none, .mv (.t 9)⟩,
      ⟨(some 61), none, .bin .quo (.t 59) (.t 60)⟩,
      ⟨(some 15), none, .mv (.t 61)⟩] [2, 8, 9, 10, 11, 13, 14, 15])
  (.seq (.rg [⟨(some 62), none, .mv (.t 11)⟩,
      ⟨(some 63), none, .mv (.t 15)⟩,
      ⟨(some 64), none, .mv (.t 9)⟩,
      ⟨(some 65), none, .bin .mul (.t 63) (.t 64)⟩,
      ⟨(some 66), none, .bin .sub (.t 62) (.t 65)⟩,
      ⟨(some 16), none, .mv (.t 66)⟩] [2, 8, 9, 10, 11, 13, 14, 15, 16])
  (.seq (.block 0
    fn44L0)
  (.seq (.rg [⟨(some 86), none, .mv (.t 11)⟩,
      ⟨(some 87), none, .bin .mul (.t 86) (.c (.int .u64 4294967296))⟩,
      ⟨(some 88), none, .mv (.t 13)⟩,
      ⟨(some 89), none, .bin .add (.t 87) (.t 88)⟩,
      ⟨(some 90), none, .mv (.t 15)⟩,
      ⟨(some 91), none, .mv (.t 2)⟩,
      ⟨(some 92), none, .bin .mul (.t 90) (.t 91)⟩,
      ⟨(some 93), none, .bin .sub (.t 89) (.t 92)⟩,
      ⟨(some 17), none, .mv (.t 93)⟩] [2, 8, 9, 10, 14, 15, 17])
  (.seq (.rg [⟨(some 94), none, .mv (.t 17)⟩,
      ⟨(some 95), none, .mv (.t 9)⟩,
      ⟨(some 96), none, .bin .quo (.t 94) (.t 95)⟩,
      ⟨(some 18), none, .mv (.t 96)⟩] [2, 8, 9, 10, 14, 15, 17, 18])
  (.seq (.rg [⟨(some 97), none, .mv (.t 17)⟩,
      ⟨(some 98), none, .mv (.t 18)⟩,
      ⟨(some 99), none, .mv (.t 9)⟩,
      ⟨(some 100), none, .bin .mul (.t 98) (.t 99)⟩,
      ⟨(some 101), none, .bin .sub (.t 97) (.t 100)⟩,
      ⟨(some 16), none, .mv (.t 101)⟩] [2, 8, 9, 10, 14, 15, 16, 17, 18])
  (.seq (.block 2
    fn44L1)
  (.seq (.rg [⟨(some 121), none, .mv (.t 15)⟩,
      ⟨(some 122), none, .bin .mul (.t 121) (.c (.int .u64 4294967296))⟩,
      ⟨(some 123), none, .mv (.t 18)⟩,
      ⟨(some 124), none, .bin .add (.t 122) (.t 123)⟩,
      ⟨(some 125), none, .mv (.t 17)⟩,
      ⟨(some 126), none, .bin .mul (.t 125) (.c (.int .u64 4294967296))⟩,
      ⟨(some 127), none, .mv (.t 14)⟩,
      ⟨(some 128), none, .bin .add (.t 126) (.t 127)⟩,
      ⟨(some 129), none, .mv (.t 18)⟩,
      ⟨(some 130), none, .mv (.t 2)⟩,
      ⟨(some 131), none, .bin .mul (.t 129) (.t 130)⟩,
      ⟨(some 132), none, .bin .sub (.t 128) (.t 131)⟩,
      ⟨(some 133), none, .mv (.t 8)⟩,
      ⟨(some 134), none, .bin .shr (.t 132) (.t 133)⟩,
      ⟨(some 6), none, .mv (.t 124)⟩,
      ⟨(some 7), none, .mv (.t 134)⟩] [6, 7])
  .ret)))))))))))))))))))),
  [.t 6, .t 7]⟩

/- spillway/fix.Is -/
def an46 : Ann := [[1], [2], [2]]
def fn46 : Vs.Fn := ⟨1,
  (.seq (.rg [⟨(some 1), none, .box 2 (.t 0)⟩,
      ⟨(some 2), none, .mv (.c (.bool false))⟩] [1])
  (.seq (.rg [⟨(some 3), none, .load true 2 (.t 1) false⟩,
      ⟨(some 4), none, .call 2 (.f 43) []⟩,
      ⟨(some 5), none, .eqs false [0, 1] (.t 3) (.t 4)⟩,
      ⟨(some 6), none, .mv (.t 5)⟩,
      ⟨(some 7), some (6, false), .fad 0 (.t 1)⟩,
      ⟨(some 8), some (6, false), .load false 1 (.t 7) false⟩,
      ⟨(some 9), some (6, false), .un .not (.t 8)⟩,
      ⟨(some 10), some (6, false), .mv (.t 9)⟩,
      ⟨(some 11), some (10, true), .fad 1 (.t 1)⟩,
      ⟨(some 12), some (10, true), .load false 1 (.t 11) false⟩,
      ⟨(some 13), some (10, true), .bin .neq (.t 12) (.c (.int .i64 (-9223372036854775808)))⟩,
      ⟨(some 14), some (6, false), .pick (.t 10) (.t 13) (.c (.bool false))⟩,
      ⟨(some 15), none, .pick (.t 6) (.c (.bool true)) (.t 14)⟩,
      ⟨(some 2), none, .mv (.t 15)⟩] [2])
  .ret)),
  [.t 2]⟩

/- spillway/fix.over -/
def an47 : Ann := [[1], [2]]
def fn47 : Vs.Fn := ⟨1,
  (.seq (.rg [⟨(some 1), none, .box 2 (.t 0)⟩,
      ⟨(some 2), none, .mv (.c (.bool false))⟩] [1])
  (.seq (.rg [⟨(some 3), none, .fad 0 (.t 1)⟩,
      ⟨(some 4), none, .load false 1 (.t 3) false⟩,
      ⟨(some 5), none, .mv (.t 4)⟩,
      ⟨(some 6), some (5, false), .fad 1 (.t 1)⟩,
      ⟨(some 7), some (5, false), .load false 1 (.t 6) false⟩,
      ⟨(some 8), some (5, false), .bin .eql (.t 7) (.c (.int .i64 (-9223372036854775808)))⟩,
      ⟨(some 9), none, .pick (.t 5) (.c (.bool true)) (.t 8)⟩,
      ⟨(some 2), none, .mv (.t 9)⟩] [2])
  .ret)),
  [.t 2]⟩

/- (spillway/fix.wide).add -/
def an48 : Ann := [[2, 3, 4], [2], [2, 3, 4, 5, 6], [2], [4, 5, 7], [4]]
def fn48 : Vs.Fn := ⟨2,
  (.seq (.rg [⟨(some 2), none, .box 2 (.t 0)⟩,
      ⟨(some 3), none, .box 2 (.t 1)⟩,
      ⟨(some 4), none, .alloc [(.int .u64 0), (.int .u64 0)]⟩] [2, 3, 4])
  (.seq (.rg [⟨(some 10), none, .fad 1 (.t 2)⟩,
      ⟨(some 11), none, .load false 1 (.t 10) false⟩,
      ⟨(some 12), none, .fad 1 (.t 3)⟩,
      ⟨(some 13), none, .load false 1 (.t 12) false⟩,
      ⟨(some 14), none, .pr .add64 [(.t 11), (.t 13), (.c (.int .u64 0))]⟩,
      ⟨(some 9), none, .mv (.t 14)⟩,
      ⟨(some 15), none, .ext (.t 9) 0⟩,
      ⟨(some 16), none, .ext (.t 9) 1⟩,
      ⟨(some 5), none, .mv (.t 15)⟩,
      ⟨(some 6), none, .mv (.t 16)⟩] [2, 3, 4, 5, 6])
  (.seq (.rg [⟨(some 18), none, .fad 0 (.t 2)⟩,
      ⟨(some 19), none, .load false 1 (.t 18) false⟩,
      ⟨(some 20), none, .fad 0 (.t 3)⟩,
      ⟨(some 21), none, .load false 1 (.t 20) false⟩,
      ⟨(some 22), none, .mv (.t 6)⟩,
      ⟨(some 23), none, .pr .add64 [(.t 19), (.t 21), (.t 22)]⟩,
      ⟨(some 17), none, .mv (.t 23)⟩,
      ⟨(some 24), none, .ext (.t 17) 0⟩,
      ⟨(some 25), none, .ext (.t 17) 1⟩,
      ⟨(some 7), none, .mv (.t 24)⟩,
      ⟨(some 8), none, .mv (.t 25)⟩] [4, 5, 7])
  (.seq (.rg [⟨(some 26), none, .mv (.t 7)⟩,
      ⟨(some 27), none, .mv (.t 5)⟩,
      ⟨(some 28), none, .build [(.int .u64 0), (.int .u64 0)] [(0, 1, (.t 26)), (1, 1, (.t 27))]⟩,
      ⟨none, none, .store 2 (.t 4) (.t 28)⟩] [4])
  .ret)))),
  [.cell 4 true 2]⟩

/- spillway/fix.of -/
def an49 : Ann := [[0, 2], [2]]
def fn49 : Vs.Fn := ⟨1,
  (.seq (.rg [⟨(some 2), none, .alloc [(.int .u64 0), (.int .u64 0)]⟩] [0, 2])
  (.seq (.rg [⟨(some 3), none, .mv (.t 0)⟩,
      ⟨(some 4), none, .bin .shr (.t 3) (.c (.int .u64 63))⟩,
      ⟨(some 5), none, .cvi .u64 (.t 4)⟩,
      ⟨(some 6), none, .mv (.t 0)⟩,
      ⟨(some 7), none, .cvi .u64 (.t 6)⟩,
      ⟨(some 8), none, .build [(.int .u64 0), (.int .u64 0)] [(0, 1, (.t 5)), (1, 1, (.t 7))]⟩,
      ⟨none, none, .store 2 (.t 2) (.t 8)⟩] [2])
  .ret)),
  [.cell 2 true 2]⟩

/- (spillway/fix.wide).num -/
def an50 : Ann := [[1, 2], [1, 2, 3], [2], [2, 3, 10], [2], [2], [2], [2]]
def fn50 : Vs.Fn := ⟨1,
  (.seq (.rg [⟨(some 1), none, .box 2 (.t 0)⟩,
      ⟨(some 2), none, .alloc [(.bool false), (.int .i64 0)]⟩] [1, 2])
  (.seq (.rg [⟨(some 4), none, .fad 1 (.t 1)⟩,
      ⟨(some 5), none, .load false 1 (.t 4) false⟩,
      ⟨(some 6), none, .cvi .i64 (.t 5)⟩,
      ⟨(some 3), none, .mv (.t 6)⟩] [1, 2, 3])
  (.seq (.seq (.rg [⟨(some 7), none, .mv (.t 3)⟩,
      ⟨(some 8), none, .call 2 (.f 49) [(.t 7)]⟩,
      ⟨(some 9), none, .load true 2 (.t 1) false⟩,
      ⟨(some 10), none, .eqs true [1, 1] (.t 8) (.t 9)⟩] [2, 3, 10])
  (.cond (.t 10)
    (.seq (.rg [⟨(some 11), none, .call 2 (.f 43) []⟩,
        ⟨none, none, .store 2 (.t 2) (.t 11)⟩] [2])
    .ret)
    .skip))
  (.seq (.rg [⟨(some 12), none, .mv (.t 3)⟩,
      ⟨(some 13), none, .call 2 (.f 59) [(.t 12)]⟩,
      ⟨none, none, .store 2 (.t 2) (.t 13)⟩] [2])
  .ret)))),
  [.cell 2 true 2]⟩

/- spillway/spillwayref2.Is -/
def an51 : Ann := [[1], [2]]
def fn51 : Vs.Fn := ⟨1,
  (.seq (.rg [⟨(some 1), none, .box 2 (.t 0)⟩,
      ⟨(some 2), none, .mv (.c (.bool false))⟩] [1])
  (.seq (.rg [⟨(some 3), none, .fad 0 (.t 1)⟩,
      ⟨(some 4), none, .load false 1 (.t 3) false⟩,
      ⟨(some 5), none, .un .not (.t 4)⟩,
      ⟨(some 6), none, .mv (.t 5)⟩,
      ⟨(some 7), some (6, true), .fad 1 (.t 1)⟩,
      ⟨(some 8), some (6, true), .load false 1 (.t 7) false⟩,
      ⟨(some 9), some (6, true), .bin .neq (.t 8) (.c (.int .i64 (-9223372036854775808)))⟩,
      ⟨(some 10), none, .pick (.t 6) (.t 9) (.c (.bool false))⟩,
      ⟨(some 11), none, .mv (.t 10)⟩,
      ⟨(some 12), some (11, false), .fad 0 (.t 1)⟩,
      ⟨(some 13), some (11, false), .load false 1 (.t 12) false⟩,
      ⟨(some 14), some (11, false), .mv (.t 13)⟩,
      ⟨(some 15), some (14, true), .fad 1 (.t 1)⟩,
      ⟨(some 16), some (14, true), .load false 1 (.t 15) false⟩,
      ⟨(some 17), some (14, true), .bin .eql (.t 16) (.c (.int .i64 0))⟩,
      ⟨(some 18), some (11, false), .pick (.t 14) (.t 17) (.c (.bool false))⟩,
      ⟨(some 19), none, .pick (.t 11) (.c (.bool true)) (.t 18)⟩,
      ⟨(some 2), none, .mv (.t 19)⟩] [2])
  .ret)),
  [.t 2]⟩

/- spillway/spillwayref2.Ovf -/
def an52 : Ann := [[0], [0]]
def fn52 : Vs.Fn := ⟨0,
  (.seq (.rg [⟨(some 0), none, .alloc [(.bool false), (.int .i64 0)]⟩] [0])
  (.seq (.rg [⟨(some 1), none, .build [(.bool false), (.int .i64 0)] [(0, 1, (.c (.bool true)))]⟩,
      ⟨none, none, .store 2 (.t 0) (.t 1)⟩] [0])
  .ret)),
  [.cell 0 true 2]⟩

/- spillway/spillwayref15.Increase -/
def an53 : Ann := [[0, 2], [0, 2, 8], [2, 3], [0, 2, 4], [0, 2, 4, 5], [0, 2, 4, 5], [0, 2, 4, 5, 13], [2], [0, 2, 4, 5, 28], [2], [0, 2, 4, 5], [2], [0, 2, 4, 5], [0, 2, 4, 5], [2], [2, 3]]
def fn53B0 : Cd :=
  (.seq (.seq (.rg [⟨(some 10), none, .mv (.t 5)⟩,
      ⟨(some 11), none, .mv (.t 0)⟩,
      ⟨(some 12), none, .len false (.t 11)⟩,
      ⟨(some 13), none, .bin .lss (.t 10) (.t 12)⟩] [0, 2, 4, 5, 13])
  (.cond (.t 13)
    .skip
    (.exit 0)))
  (.seq (.block 1
    (.seq (.rg [⟨(some 16), none, .mv (.t 0)⟩,
        ⟨(some 17), none, .mv (.t 5)⟩,
        ⟨(some 18), none, .iad 3 (.t 16) (.t 17)⟩,
        ⟨(some 19), none, .fad 1 (.t 18)⟩,
        ⟨(some 20), none, .load true 2 (.t 19) false⟩,
        ⟨(some 21), none, .mv (.t 0)⟩,
        ⟨(some 22), none, .mv (.t 5)⟩,
        ⟨(some 23), none, .bin .sub (.t 22) (.c (.int .i64 1))⟩,
        ⟨(some 24), none, .iad 3 (.t 21) (.t 23)⟩,
        ⟨(some 25), none, .fad 1 (.t 24)⟩,
        ⟨(some 26), none, .load true 2 (.t 25) false⟩,
        ⟨(some 27), none, .call 2 (.f 60) [(.t 20), (.t 26)]⟩,
        ⟨(some 28), none, .bin .lss (.t 27) (.c (.int .i64 0))⟩] [0, 2, 4, 5, 28])
    (.cond (.t 28)
      (.rg [⟨(some 29), none, .mv (.t 4)⟩,
          ⟨(some 30), none, .mv (.t 0)⟩,
          ⟨(some 31), none, .mv (.t 5)⟩,
          ⟨(some 32), none, .iad 3 (.t 30) (.t 31)⟩,
          ⟨(some 33), none, .fad 1 (.t 32)⟩,
          ⟨(some 34), none, .load true 2 (.t 33) false⟩,
          ⟨(some 35), none, .call 2 (.f 38) [(.t 34)]⟩,
          ⟨(some 36), none, .bslice 1 2 [(.bool false), (.int .i64 0)] [(0, (.t 35))]⟩,
          ⟨(some 37), none, .app 2 16 (.t 29) (.t 36)⟩,
          ⟨(some 4), none, .mv (.t 37)⟩] [0, 2, 4, 5])
      (.rg [⟨(some 38), none, .mv (.t 4)⟩,
          ⟨(some 39), none, .mv (.t 0)⟩,
          ⟨(some 40), none, .mv (.t 5)⟩,
          ⟨(some 41), none, .iad 3 (.t 39) (.t 40)⟩,
          ⟨(some 42), none, .fad 1 (.t 41)⟩,
          ⟨(some 43), none, .load true 2 (.t 42) false⟩,
          ⟨(some 44), none, .mv (.t 0)⟩,
          ⟨(some 45), none, .mv (.t 5)⟩,
          ⟨(some 46), none, .bin .sub (.t 45) (.c (.int .i64 1))⟩,
          ⟨(some 47), none, .iad 3 (.t 44) (.t 46)⟩,
          ⟨(some 48), none, .fad 1 (.t 47)⟩,
          ⟨(some 49), none, .load true 2 (.t 48) false⟩,
          ⟨(some 50), none, .call 2 (.f 57) [(.t 43), (.t 49)]⟩,
          ⟨(some 51), none, .bslice 1 2 [(.bool false), (.int .i64 0)] [(0, (.t 50))]⟩,
          ⟨(some 52), none, .app 2 16 (.t 38) (.t 51)⟩,
          ⟨(some 4), none, .mv (.t 52)⟩] [0, 2, 4, 5]))))
  (.rg [⟨(some 14), none, .mv (.t 5)⟩,
      ⟨(some 15), none, .bin .add (.t 14) (.c (.int .i64 1))⟩,
      ⟨(some 5), none, .mv (.t 15)⟩] [0, 2, 4, 5])))
def fn53L0 : Cd := .loop [0, 2, 4, 5] fn53B0
def fn53 : Vs.Fn := ⟨1,
  (.seq (.rg [⟨(some 2), none, .alloc [(.bool false), (.int .i64 0)]⟩,
      ⟨(some 3), none, .mv (.c (.bool false))⟩] [0, 2])
  (.seq (.seq (.rg [⟨(some 6), none, .mv (.t 0)⟩,
      ⟨(some 7), none, .len false (.t 6)⟩,
      ⟨(some 8), none, .bin .lss (.t 7) (.c (.int .i64 2))⟩] [0, 2, 8])
  (.cond (.t 8)
    (.seq (.rg [⟨(some 9), none, .build [(.bool false), (.int .i64 0)] []⟩,
        ⟨none, none, .store 2 (.t 2) (.t 9)⟩,
        ⟨(some 3), none, .mv (.c (.bool false))⟩] [2, 3])
    .ret)
    .skip))
  (.seq (.rg [⟨(some 4), none, .mv (.c (.slice none 0 0))⟩] [0, 2, 4])
  (.seq (.seq (.rg [⟨(some 5), none, .mv (.c (.int .i64 1))⟩] [0, 2, 4, 5])
  (.block 0
    fn53L0))
  (.seq (.rg [⟨(some 53), none, .mv (.t 4)⟩,
      ⟨(some 54), none, .call 2 (.f 39) [(.t 53)]⟩,
      ⟨none, none, .store 2 (.t 2) (.t 54)⟩,
      ⟨(some 3), none, .mv (.c (.bool true))⟩] [2, 3])
  .ret))))),
  [.cell 2 true 2, .t 3]⟩

/- spillway/spillwayref2.Div -/
def an54 : Ann := [[2, 3, 4], [2], [2, 3, 4, 12], [2], [4], [2], [2], [2], [4]]
def fn54 : Vs.Fn := ⟨2,
  (.seq (.rg [⟨(some 2), none, .box 2 (.t 0)⟩,
      ⟨(some 3), none, .box 2 (.t 1)⟩,
      ⟨(some 4), none, .alloc [(.bool false), (.int .i64 0)]⟩] [2, 3, 4])
  (.seq (.seq (.rg [⟨(some 5), none, .load true 2 (.t 2) false⟩,
      ⟨(some 6), none, .load true 2 (.t 3) false⟩,
      ⟨(some 7), none, .call 2 (.f 61) [(.t 5), (.t 6)]⟩,
      ⟨(some 8), none, .mv (.t 7)⟩,
      ⟨(some 9), some (8, false), .fad 1 (.t 3)⟩,
      ⟨(some 10), some (8, false), .load false 1 (.t 9) false⟩,
      ⟨(some 11), some (8, false), .bin .eql (.t 10) (.c (.int .i64 0))⟩,
      ⟨(some 12), none, .pick (.t 8) (.c (.bool true)) (.t 11)⟩] [2, 3, 4, 12])
  (.cond (.t 12)
    (.seq (.rg [⟨(some 13), none, .call 2 (.f 52) []⟩,
        ⟨none, none, .store 2 (.t 4) (.t 13)⟩] [4])
    .ret)
    .skip))
  (.seq (.rg [⟨(some 14), none, .fad 1 (.t 2)⟩,
      ⟨(some 15), none, .load false 1 (.t 14) false⟩,
      ⟨(some 16), none, .call 2 (.f 63) [(.t 15)]⟩,
      ⟨(some 17), none, .fad 1 (.t 3)⟩,
      ⟨(some 18), none, .load false 1 (.t 17) false⟩,
      ⟨(some 19), none, .call 2 (.f 63) [(.t 18)]⟩,
      ⟨(some 20), none, .fad 1 (.t 2)⟩,
      ⟨(some 21), none, .load false 1 (.t 20) false⟩,
      ⟨(some 22), none, .bin .lss (.t 21) (.c (.int .i64 0))⟩,
      ⟨(some 23), none, .fad 1 (.t 3)⟩,
      ⟨(some 24), none, .load false 1 (.t 23) false⟩,
      ⟨(some 25), none, .bin .lss (.t 24) (.c (.int .i64 0))⟩,
      ⟨(some 26), none, .eqb true (.t 22) (.t 25)⟩,
      ⟨(some 27), none, .call 2 (.f 62) [(.t 16), (.c (.int .u64 1000000)), (.t 19), (.t 26)]⟩,
      ⟨none, none, .store 2 (.t 4) (.t 27)⟩] [4])
  .ret))),
  [.cell 4 true 2]⟩

/- spillway/spillwayref15.Whole -/
def an55 : Ann := [[0, 2], [2], [2]]
def fn55 : Vs.Fn := ⟨1,
  (.seq (.rg [⟨(some 2), none, .alloc [(.bool false), (.int .i64 0)]⟩] [0, 2])
  (.seq (.rg [⟨(some 3), none, .mv (.t 0)⟩,
      ⟨(some 4), none, .call 2 (.f 64) [(.t 3)]⟩,
      ⟨none, none, .store 2 (.t 2) (.t 4)⟩] [2])
  .ret)),
  [.cell 2 true 2]⟩

/- spillway/spillwayref15.Extreme -/
def an56 : Ann := [[0, 1, 4], [0, 1, 4, 11], [4, 5], [0, 1, 4, 6], [0, 1, 4, 6, 7], [0, 1, 4, 6, 7], [0, 1, 4, 6, 7, 19], [2], [0, 1, 4, 6, 7, 8], [0, 1, 4, 6, 7, 40], [0, 1, 4, 6, 7], [0, 1, 4, 6, 7], [2], [4, 5]]
def fn56B0 : Cd :=
  (.seq (.seq (.rg [⟨(some 16), none, .mv (.t 7)⟩,
      ⟨(some 17), none, .mv (.t 0)⟩,
      ⟨(some 18), none, .len false (.t 17)⟩,
      ⟨(some 19), none, .bin .lss (.t 16) (.t 18)⟩] [0, 1, 4, 6, 7, 19])
  (.cond (.t 19)
    .skip
    (.exit 0)))
  (.seq (.block 1
    (.seq (.rg [⟨(some 22), none, .mv (.t 0)⟩,
        ⟨(some 23), none, .mv (.t 7)⟩,
        ⟨(some 24), none, .iad 2 (.t 22) (.t 23)⟩,
        ⟨(some 25), none, .load true 2 (.t 24) false⟩,
        ⟨(some 26), none, .load true 2 (.t 6) false⟩,
        ⟨(some 27), none, .call 2 (.f 60) [(.t 25), (.t 26)]⟩,
        ⟨(some 8), none, .mv (.t 27)⟩] [0, 1, 4, 6, 7, 8])
    (.seq (.rg [⟨(some 28), none, .mv (.t 8)⟩,
        ⟨(some 29), none, .bin .gtr (.t 28) (.c (.int .i64 0))⟩,
        ⟨(some 30), none, .mv (.t 29)⟩,
        ⟨(some 31), some (30, true), .mv (.t 1)⟩,
        ⟨(some 32), none, .pick (.t 30) (.t 31) (.c (.bool false))⟩,
        ⟨(some 33), none, .mv (.t 32)⟩,
        ⟨(some 34), some (33, false), .mv (.t 8)⟩,
        ⟨(some 35), some (33, false), .bin .lss (.t 34) (.c (.int .i64 0))⟩,
        ⟨(some 36), some (33, false), .mv (.t 35)⟩,
        ⟨(some 37), some (36, true), .mv (.t 1)⟩,
        ⟨(some 38), some (36, true), .un .not (.t 37)⟩,
        ⟨(some 39), some (33, false), .pick (.t 36) (.t 38) (.c (.bool false))⟩,
        ⟨(some 40), none, .pick (.t 33) (.c (.bool true)) (.t 39)⟩] [0, 1, 4, 6, 7, 40])
    (.cond (.t 40)
      (.rg [⟨(some 41), none, .mv (.t 0)⟩,
          ⟨(some 42), none, .mv (.t 7)⟩,
          ⟨(some 43), none, .iad 2 (.t 41) (.t 42)⟩,
          ⟨(some 44), none, .load true 2 (.t 43) false⟩,
          ⟨none, none, .store 2 (.t 6) (.t 44)⟩] [0, 1, 4, 6, 7])
      .skip))))
  (.rg [⟨(some 20), none, .mv (.t 7)⟩,
      ⟨(some 21), none, .bin .add (.t 20) (.c (.int .i64 1))⟩,
      ⟨(some 7), none, .mv (.t 21)⟩] [0, 1, 4, 6, 7])))
def fn56L0 : Cd := .loop [0, 1, 4, 6, 7] fn56B0
def fn56 : Vs.Fn := ⟨2,
  (.seq (.rg [⟨(some 4), none, .alloc [(.bool false), (.int .i64 0)]⟩,
      ⟨(some 5), none, .mv (.c (.bool false))⟩] [0, 1, 4])
  (.seq (.seq (.rg [⟨(some 9), none, .mv (.t 0)⟩,
      ⟨(some 10), none, .len false (.t 9)⟩,
      ⟨(some 11), none, .bin .eql (.t 10) (.c (.int .i64 0))⟩] [0, 1, 4, 11])
  (.cond (.t 11)
    (.seq (.rg [⟨(some 12), none, .build [(.bool false), (.int .i64 0)] []⟩,
        ⟨none, none, .store 2 (.t 4) (.t 12)⟩,
        ⟨(some 5), none, .mv (.c (.bool false))⟩] [4, 5])
    .ret)
    .skip))
  (.seq (.rg [⟨(some 13), none, .mv (.t 0)⟩,
      ⟨(some 14), none, .iad 2 (.t 13) (.c (.int .i64 0))⟩,
      ⟨(some 15), none, .load true 2 (.t 14) false⟩,
      ⟨(some 6), none, .alloc [(.bool false), (.int .i64 0)]⟩,
      ⟨none, none, .store 2 (.t 6) (.t 15)⟩] [0, 1, 4, 6])
  (.seq (.seq (.rg [⟨(some 7), none, .mv (.c (.int .i64 1))⟩] [0, 1, 4, 6, 7])
  (.block 0
    fn56L0))
  (.seq (.rg [⟨(some 45), none, .load true 2 (.t 6) false⟩,
      ⟨(some 46), none, .call 2 (.f 38) [(.t 45)]⟩,
      ⟨none, none, .store 2 (.t 4) (.t 46)⟩,
      ⟨(some 5), none, .mv (.c (.bool true))⟩] [4, 5])
  .ret))))),
  [.cell 4 true 2, .t 5]⟩

/- spillway/spillwayref2.Sub -/
def an57 : Ann := [[2, 3, 4], [2], [2], [4]]
def fn57 : Vs.Fn := ⟨2,
  (.seq (.rg [⟨(some 2), none, .box 2 (.t 0)⟩,
      ⟨(some 3), none, .box 2 (.t 1)⟩,
      ⟨(some 4), none, .alloc [(.bool false), (.int .i64 0)]⟩] [2, 3, 4])
  (.seq (.rg [⟨(some 5), none, .load true 2 (.t 2) false⟩,
      ⟨(some 6), none, .load true 2 (.t 3) false⟩,
      ⟨(some 7), none, .call 2 (.f 66) [(.t 6)]⟩,
      ⟨(some 8), none, .call 2 (.f 65) [(.t 5), (.t 7)]⟩,
      ⟨none, none, .store 2 (.t 4) (.t 8)⟩] [4])
  .ret)),
  [.cell 4 true 2]⟩

/- math/bits.LeadingZeros64 -/
def an58 : Ann := [[0], [2], [2]]
def fn58 : Vs.Fn := ⟨1,
  (.seq (.rg [⟨(some 2), none, .mv (.c (.int .i64 0))⟩] [0])
  (.seq (.rg [⟨(some 3), none, .mv (.t 0)⟩,
      ⟨(some 4), none, .call 2 (.f 67) [(.t 3)]⟩,
      ⟨(some 5), none, .bin .sub (.c (.int .i64 64)) (.t 4)⟩,
      ⟨(some 2), none, .mv (.t 5)⟩] [2])
  .ret)),
  [.t 2]⟩

/- spillway/fix.held -/
def an59 : Ann := [[0, 2], [0, 2, 4], [2], [2], [2]]
def fn59 : Vs.Fn := ⟨1,
  (.seq (.rg [⟨(some 2), none, .alloc [(.bool false), (.int .i64 0)]⟩] [0, 2])
  (.seq (.seq (.rg [⟨(some 3), none, .mv (.t 0)⟩,
      ⟨(some 4), none, .bin .eql (.t 3) (.c (.int .i64 (-9223372036854775808)))⟩] [0, 2, 4])
  (.cond (.t 4)
    (.seq (.rg [⟨(some 5), none, .call 2 (.f 43) []⟩,
        ⟨none, none, .store 2 (.t 2) (.t 5)⟩] [2])
    .ret)
    .skip))
  (.seq (.rg [⟨(some 6), none, .mv (.t 0)⟩,
      ⟨(some 7), none, .build [(.bool false), (.int .i64 0)] [(1, 1, (.t 6))]⟩,
      ⟨none, none, .store 2 (.t 2) (.t 7)⟩] [2])
  .ret))),
  [.cell 2 true 2]⟩

/- spillway/spillwayref2.Cmp -/
def an60 : Ann := [[2, 3], [2], [2], [2, 3, 5, 6], [2, 3, 5, 6, 21], [4], [2, 3, 6, 26], [4], [2, 3, 28], [4], [2, 3, 30], [4], [36], [4], [4]]
def fn60 : Vs.Fn := ⟨2,
  (.seq (.rg [⟨(some 2), none, .box 2 (.t 0)⟩,
      ⟨(some 3), none, .box 2 (.t 1)⟩,
      ⟨(some 4), none, .mv (.c (.int .i64 0))⟩] [2, 3])
  (.seq (.rg [⟨(some 7), none, .fad 0 (.t 2)⟩,
      ⟨(some 8), none, .load false 1 (.t 7) false⟩,
      ⟨(some 9), none, .mv (.t 8)⟩,
      ⟨(some 10), some (9, false), .load true 2 (.t 2) false⟩,
      ⟨(some 11), some (9, false), .call 2 (.f 51) [(.t 10)]⟩,
      ⟨(some 12), some (9, false), .un .not (.t 11)⟩,
      ⟨(some 13), none, .pick (.t 9) (.c (.bool true)) (.t 12)⟩,
      ⟨(some 14), none, .fad 0 (.t 3)⟩,
      ⟨(some 15), none, .load false 1 (.t 14) false⟩,
      ⟨(some 16), none, .mv (.t 15)⟩,
      ⟨(some 17), some (16, false), .load true 2 (.t 3) false⟩,
      ⟨(some 18), some (16, false), .call 2 (.f 51) [(.t 17)]⟩,
      ⟨(some 19), some (16, false), .un .not (.t 18)⟩,
      ⟨(some 20), none, .pick (.t 16) (.c (.bool true)) (.t 19)⟩,
      ⟨(some 5), none, .mv (.t 13)⟩,
      ⟨(some 6), none, .mv (.t 20)⟩] [2, 3, 5, 6])
  (.seq (.block 0
    (.seq (.rg [⟨(some 22), none, .mv (.t 5)⟩,
        ⟨(some 23), none, .mv (.t 22)⟩,
        ⟨(some 24), some (23, true), .mv (.t 6)⟩,
        ⟨(some 25), none, .pick (.t 23) (.t 24) (.c (.bool false))⟩,
        ⟨(some 21), none, .mv (.t 25)⟩] [2, 3, 5, 6, 21])
    (.cond (.t 21)
      (.seq (.rg [⟨(some 4), none, .mv (.c (.int .i64 0))⟩] [4])
      .ret)
      (.seq (.rg [⟨(some 27), none, .mv (.t 5)⟩,
          ⟨(some 26), none, .mv (.t 27)⟩] [2, 3, 6, 26])
      (.cond (.t 26)
        (.seq (.rg [⟨(some 4), none, .mv (.c (.int .i64 1))⟩] [4])
        .ret)
        (.seq (.rg [⟨(some 29), none, .mv (.t 6)⟩,
            ⟨(some 28), none, .mv (.t 29)⟩] [2, 3, 28])
        (.cond (.t 28)
          (.seq (.rg [⟨(some 4), none, .mv (.c (.int .i64 (-1)))⟩] [4])
          .ret)
          (.seq (.rg [⟨(some 31), none, .fad 1 (.t 2)⟩,
              ⟨(some 32), none, .load false 1 (.t 31) false⟩,
              ⟨(some 33), none, .fad 1 (.t 3)⟩,
              ⟨(some 34), none, .load false 1 (.t 33) false⟩,
              ⟨(some 35), none, .bin .lss (.t 32) (.t 34)⟩,
              ⟨(some 30), none, .mv (.t 35)⟩] [2, 3, 30])
          (.cond (.t 30)
            (.seq (.rg [⟨(some 4), none, .mv (.c (.int .i64 (-1)))⟩] [4])
            .ret)
            (.seq (.rg [⟨(some 37), none, .fad 1 (.t 2)⟩,
                ⟨(some 38), none, .load false 1 (.t 37) false⟩,
                ⟨(some 39), none, .fad 1 (.t 3)⟩,
                ⟨(some 40), none, .load false 1 (.t 39) false⟩,
                ⟨(some 41), none, .bin .gtr (.t 38) (.t 40)⟩,
                ⟨(some 36), none, .mv (.t 41)⟩] [36])
            (.cond (.t 36)
              (.seq (.rg [⟨(some 4), none, .mv (.c (.int .i64 1))⟩] [4])
              .ret)
              .skip)))))))))))
  (.seq (.rg [⟨(some 4), none, .mv (.c (.int .i64 0))⟩] [4])
  .ret)))),
  [.t 4]⟩

/- spillway/spillwayref2.none -/
def an61 : Ann := [[2, 3], [2], [2], [4]]
def fn61 : Vs.Fn := ⟨2,
  (.seq (.rg [⟨(some 2), none, .box 2 (.t 0)⟩,
      ⟨(some 3), none, .box 2 (.t 1)⟩,
      ⟨(some 4), none, .mv (.c (.bool false))⟩] [2, 3])
  (.seq (.rg [⟨(some 5), none, .fad 0 (.t 2)⟩,
      ⟨(some 6), none, .load false 1 (.t 5) false⟩,
      ⟨(some 7), none, .mv (.t 6)⟩,
      ⟨(some 8), some (7, false), .fad 0 (.t 3)⟩,
      ⟨(some 9), some (7, false), .load false 1 (.t 8) false⟩,
      ⟨(some 10), none, .pick (.t 7) (.c (.bool true)) (.t 9)⟩,
      ⟨(some 11), none, .mv (.t 10)⟩,
      ⟨(some 12), some (11, false), .load true 2 (.t 2) false⟩,
      ⟨(some 13), some (11, false), .call 2 (.f 51) [(.t 12)]⟩,
      ⟨(some 14), some (11, false), .un .not (.t 13)⟩,
      ⟨(some 15), none, .pick (.t 11) (.c (.bool true)) (.t 14)⟩,
      ⟨(some 16), none, .mv (.t 15)⟩,
      ⟨(some 17), some (16, false), .load true 2 (.t 3) false⟩,
      ⟨(some 18), some (16, false), .call 2 (.f 51) [(.t 17)]⟩,
      ⟨(some 19), some (16, false), .un .not (.t 18)⟩,
      ⟨(some 20), none, .pick (.t 16) (.c (.bool true)) (.t 19)⟩,
      ⟨(some 4), none, .mv (.t 20)⟩] [4])
  .ret)),
  [.t 4]⟩

/- spillway/spillwayref2.over -/
def an62 : Ann := [[0, 1, 2, 3, 8], [2], [2, 3, 8, 9, 10], [2, 3, 8, 9, 10, 21], [2], [8], [2], [3, 8, 11], [2], [8]]
def fn62 : Vs.Fn := ⟨4,
  (.seq (.rg [⟨(some 8), none, .alloc [(.bool false), (.int .i64 0)]⟩] [0, 1, 2, 3, 8])
  (.seq (.rg [⟨(some 14), none, .mv (.t 0)⟩,
      ⟨(some 15), none, .mv (.t 1)⟩,
      ⟨(some 16), none, .call 2 (.f 42) [(.t 14), (.t 15)]⟩,
      ⟨(some 13), none, .mv (.t 16)⟩,
      ⟨(some 17), none, .ext (.t 13) 0⟩,
      ⟨(some 18), none, .ext (.t 13) 1⟩,
      ⟨(some 9), none, .mv (.t 17)⟩,
      ⟨(some 10), none, .mv (.t 18)⟩] [2, 3, 8, 9, 10])
  (.seq (.seq (.rg [⟨(some 19), none, .mv (.t 9)⟩,
      ⟨(some 20), none, .mv (.t 2)⟩,
      ⟨(some 21), none, .bin .geq (.t 19) (.t 20)⟩] [2, 3, 8, 9, 10, 21])
  (.cond (.t 21)
    (.seq (.rg [⟨(some 22), none, .call 2 (.f 52) []⟩,
        ⟨none, none, .store 2 (.t 8) (.t 22)⟩] [8])
    .ret)
    .skip))
  (.seq (.rg [⟨(some 24), none, .mv (.t 9)⟩,
      ⟨(some 25), none, .mv (.t 10)⟩,
      ⟨(some 26), none, .mv (.t 2)⟩,
      ⟨(some 27), none, .call 2 (.f 44) [(.t 24), (.t 25), (.t 26)]⟩,
      ⟨(some 23), none, .mv (.t 27)⟩,
      ⟨(some 28), none, .ext (.t 23) 0⟩,
      ⟨(some 29), none, .ext (.t 23) 1⟩,
      ⟨(some 11), none, .mv (.t 28)⟩,
      ⟨(some 12), none, .mv (.t 29)⟩] [3, 8, 11])
  (.seq (.rg [⟨(some 30), none, .mv (.t 11)⟩,
      ⟨(some 31), none, .mv (.t 3)⟩,
      ⟨(some 32), none, .call 2 (.f 68) [(.t 30), (.t 31)]⟩,
      ⟨none, none, .store 2 (.t 8) (.t 32)⟩] [8])
  .ret))))),
  [.cell 8 true 2]⟩

/- spillway/spillwayref2.size -/
def an63 : Ann := [[0], [0, 4], [2], [2]]
def fn63 : Vs.Fn := ⟨1,
  (.seq (.rg [⟨(some 2), none, .mv (.c (.int .u64 0))⟩] [0])
  (.seq (.seq (.rg [⟨(some 3), none, .mv (.t 0)⟩,
      ⟨(some 4), none, .bin .lss (.t 3) (.c (.int .i64 0))⟩] [0, 4])
  (.cond (.t 4)
    (.seq (.rg [⟨(some 5), none, .mv (.t 0)⟩,
        ⟨(some 6), none, .un .neg (.t 5)⟩,
        ⟨(some 7), none, .cvi .u64 (.t 6)⟩,
        ⟨(some 2), none, .mv (.t 7)⟩] [2])
    .ret)
    .skip))
  (.seq (.rg [⟨(some 8), none, .mv (.t 0)⟩,
      ⟨(some 9), none, .cvi .u64 (.t 8)⟩,
      ⟨(some 2), none, .mv (.t 9)⟩] [2])
  .ret))),
  [.t 2]⟩

/- spillway/spillwayref2.Of -/
def an64 : Ann := [[0, 2], [2], [2]]
def fn64 : Vs.Fn := ⟨1,
  (.seq (.rg [⟨(some 2), none, .alloc [(.bool false), (.int .i64 0)]⟩] [0, 2])
  (.seq (.rg [⟨(some 3), none, .mv (.t 0)⟩,
      ⟨(some 4), none, .build [(.bool false), (.int .i64 0)] [(1, 1, (.t 3))]⟩,
      ⟨(some 5), none, .build [(.bool false), (.int .i64 0)] [(1, 1, (.c (.int .i64 1000000000000)))]⟩,
      ⟨(some 6), none, .call 2 (.f 69) [(.t 4), (.t 5)]⟩,
      ⟨none, none, .store 2 (.t 2) (.t 6)⟩] [2])
  .ret)),
  [.cell 2 true 2]⟩

/- spillway/spillwayref2.Add -/
def an65 : Ann := [[2, 3, 4], [2], [2, 3, 4, 8], [2], [4], [2, 3, 4, 5], [4, 5, 44], [2], [4], [4]]
def fn65 : Vs.Fn := ⟨2,
  (.seq (.rg [⟨(some 2), none, .box 2 (.t 0)⟩,
      ⟨(some 3), none, .box 2 (.t 1)⟩,
      ⟨(some 4), none, .alloc [(.bool false), (.int .i64 0)]⟩] [2, 3, 4])
  (.seq (.seq (.rg [⟨(some 6), none, .load true 2 (.t 2) false⟩,
      ⟨(some 7), none, .load true 2 (.t 3) false⟩,
      ⟨(some 8), none, .call 2 (.f 61) [(.t 6), (.t 7)]⟩] [2, 3, 4, 8])
  (.cond (.t 8)
    (.seq (.rg [⟨(some 9), none, .call 2 (.f 52) []⟩,
        ⟨none, none, .store 2 (.t 4) (.t 9)⟩] [4])
    .ret)
    .skip))
  (.seq (.rg [⟨(some 10), none, .fad 1 (.t 2)⟩,
      ⟨(some 11), none, .load false 1 (.t 10) false⟩,
      ⟨(some 12), none, .fad 1 (.t 3)⟩,
      ⟨(some 13), none, .load false 1 (.t 12) false⟩,
      ⟨(some 14), none, .bin .add (.t 11) (.t 13)⟩,
      ⟨(some 5), none, .mv (.t 14)⟩] [2, 3, 4, 5])
  (.seq (.seq (.rg [⟨(some 15), none, .fad 1 (.t 2)⟩,
      ⟨(some 16), none, .load false 1 (.t 15) false⟩,
      ⟨(some 17), none, .bin .gtr (.t 16) (.c (.int .i64 0))⟩,
      ⟨(some 18), none, .mv (.t 17)⟩,
      ⟨(some 19), some (18, true), .fad 1 (.t 3)⟩,
      ⟨(some 20), some (18, true), .load false 1 (.t 19) false⟩,
      ⟨(some 21), some (18, true), .bin .gtr (.t 20) (.c (.int .i64 0))⟩,
      ⟨(some 22), none, .pick (.t 18) (.t 21) (.c (.bool false))⟩,
      ⟨(some 23), none, .mv (.t 22)⟩,
      ⟨(some 24), some (23, true), .mv (.t 5)⟩,
      ⟨(some 25), some (23, true), .bin .leq (.t 24) (.c (.int .i64 0))⟩,
      ⟨(some 26), none, .pick (.t 23) (.t 25) (.c (.bool false))⟩,
      ⟨(some 27), none, .mv (.t 26)⟩,
      ⟨(some 28), some (27, false), .fad 1 (.t 2)⟩,
      ⟨(some 29), some (27, false), .load false 1 (.t 28) false⟩,
      ⟨(some 30), some (27, false), .bin .lss (.t 29) (.c (.int .i64 0))⟩,
      ⟨(some 31), some (27, false), .mv (.t 30)⟩,
      ⟨(some 32), some (31, true), .fad 1 (.t 3)⟩,
      ⟨(some 33), some (31, true), .load false 1 (.t 32) false⟩,
      ⟨(some 34), some (31, true), .bin .lss (.t 33) (.c (.int .i64 0))⟩,
      ⟨(some 35), some (27, false), .pick (.t 31) (.t 34) (.c (.bool false))⟩,
      ⟨(some 36), some (27, false), .mv (.t 35)⟩,
      ⟨(some 37), some (36, true), .mv (.t 5)⟩,
      ⟨(some 38), some (36, true), .bin .geq (.t 37) (.c (.int .i64 0))⟩,
      ⟨(some 39), some (27, false), .pick (.t 36) (.t 38) (.c (.bool false))⟩,
      ⟨(some 40), none, .pick (.t 27) (.c (.bool true)) (.t 39)⟩,
      ⟨(some 41), none, .mv (.t 40)⟩,
      ⟨(some 42), some (41, false), .mv (.t 5)⟩,
      ⟨(some 43), some (41, false), .bin .eql (.t 42) (.c (.int .i64 (-9223372036854775808)))⟩,
      ⟨(some 44), none, .pick (.t 41) (.c (.bool true)) (.t 43)⟩] [4, 5, 44])
  (.cond (.t 44)
    (.seq (.rg [⟨(some 45), none, .call 2 (.f 52) []⟩,
        ⟨none, none, .store 2 (.t 4) (.t 45)⟩] [4])
    .ret)
    .skip))
  (.seq (.rg [⟨(some 46), none, .mv (.t 5)⟩,
      ⟨(some 47), none, .build [(.bool false), (.int .i64 0)] [(1, 1, (.t 46))]⟩,
      ⟨none, none, .store 2 (.t 4) (.t 47)⟩] [4])
  .ret))))),
  [.cell 4 true 2]⟩

/- spillway/spillwayref2.Neg -/
def an66 : Ann := [[1, 2], [2], [1, 2, 9], [2], [2], [2]]
def fn66 : Vs.Fn := ⟨1,
  (.seq (.rg [⟨(some 1), none, .box 2 (.t 0)⟩,
      ⟨(some 2), none, .alloc [(.bool false), (.int .i64 0)]⟩] [1, 2])
  (.seq (.seq (.rg [⟨(some 3), none, .load true 2 (.t 1) false⟩,
      ⟨(some 4), none, .call 2 (.f 51) [(.t 3)]⟩,
      ⟨(some 5), none, .un .not (.t 4)⟩,
      ⟨(some 6), none, .mv (.t 5)⟩,
      ⟨(some 7), some (6, false), .fad 0 (.t 1)⟩,
      ⟨(some 8), some (6, false), .load false 1 (.t 7) false⟩,
      ⟨(some 9), none, .pick (.t 6) (.c (.bool true)) (.t 8)⟩] [1, 2, 9])
  (.cond (.t 9)
    (.seq (.rg [⟨(some 10), none, .call 2 (.f 52) []⟩,
        ⟨none, none, .store 2 (.t 2) (.t 10)⟩] [2])
    .ret)
    .skip))
  (.seq (.rg [⟨(some 11), none, .fad 1 (.t 1)⟩,
      ⟨(some 12), none, .load false 1 (.t 11) false⟩,
      ⟨(some 13), none, .un .neg (.t 12)⟩,
      ⟨(some 14), none, .build [(.bool false), (.int .i64 0)] [(1, 1, (.t 13))]⟩,
      ⟨none, none, .store 2 (.t 2) (.t 14)⟩] [2])
  .ret))),
  [.cell 2 true 2]⟩

/- math/bits.Len64 -/
def an67 : Ann := [[0, 2], [0, 2, 4], [0], [0, 2], [0, 2, 8], [0, 2], [0, 2], [0, 2, 14], [0, 2], [0, 2], [2]]
def fn67 : Vs.Fn := ⟨1,
  (.seq (.rg [⟨(some 2), none, .mv (.c (.int .i64 0))⟩] [0, 2])
  (.seq (.seq (.rg [⟨(some 3), none, .mv (.t 0)⟩,
      ⟨(some 4), none, .bin .geq (.t 3) (.c (.int .u64 4294967296))⟩] [0, 2, 4])
  (.cond (.t 4)
    (.seq (.rg [⟨(some 5), none, .mv (.t 0)⟩,
        ⟨(some 6), none, .bin .shr (.t 5) (.c (.int .u64 32))⟩,
        ⟨(some 0), none, .mv (.t 6)⟩] [0])
    (.rg [⟨(some 2), none, .mv (.c (.int .i64 32))⟩] [0, 2]))
    .skip))
  (.seq (.seq (.rg [⟨(some 7), none, .mv (.t 0)⟩,
      ⟨(some 8), none, .bin .geq (.t 7) (.c (.int .u64 65536))⟩] [0, 2, 8])
  (.cond (.t 8)
    (.seq (.rg [⟨(some 9), none, .mv (.t 0)⟩,
        ⟨(some 10), none, .bin .shr (.t 9) (.c (.int .u64 16))⟩,
        ⟨(some 0), none, .mv (.t 10)⟩] [0, 2])
    (.rg [⟨(some 11), none, .mv (.t 2)⟩,
        ⟨(some 12), none, .bin .add (.t 11) (.c (.int .i64 16))⟩,
        ⟨(some 2), none, .mv (.t 12)⟩] [0, 2]))
    .skip))
  (.seq (.seq (.rg [⟨(some 13), none, .mv (.t 0)⟩,
      ⟨(some 14), none, .bin .geq (.t 13) (.c (.int .u64 256))⟩] [0, 2, 14])
  (.cond (.t 14)
    (.seq (.rg [⟨(some 15), none, .mv (.t 0)⟩,
        ⟨(some 16), none, .bin .shr (.t 15) (.c (.int .u64 8))⟩,
        ⟨(some 0), none, .mv (.t 16)⟩] [0, 2])
    (.rg [⟨(some 17), none, .mv (.t 2)⟩,
        ⟨(some 18), none, .bin .add (.t 17) (.c (.int .i64 8))⟩,
        ⟨(some 2), none, .mv (.t 18)⟩] [0, 2]))
    .skip))
  (.seq (.rg [⟨(some 19), none, .mv (.t 2)⟩,
      ⟨(some 20), none, .mv (.t 0)⟩,
      ⟨(some 21), none, .cvi .u8 (.t 20)⟩,
      ⟨(some 22), none, .ist (.c (.string ⟨#[0, 1, 2, 2, 3, 3, 3, 3, 4, 4, 4, 4, 4, 4, 4, 4, 5, 5, 5, 5, 5, 5, 5, 5, 5, 5, 5, 5, 5, 5, 5, 5, 6, 6, 6, 6, 6, 6, 6, 6, 6, 6, 6, 6, 6, 6, 6, 6, 6, 6, 6, 6, 6, 6, 6, 6, 6, 6, 6, 6, 6, 6, 6, 6, 7, 7, 7, 7, 7, 7, 7, 7, 7, 7, 7, 7, 7, 7, 7, 7, 7, 7, 7, 7, 7, 7, 7, 7, 7, 7, 7, 7, 7, 7, 7, 7, 7, 7, 7, 7, 7, 7, 7, 7, 7, 7, 7, 7, 7, 7, 7, 7, 7, 7, 7, 7, 7, 7, 7, 7, 7, 7, 7, 7, 7, 7, 7, 7, 8, 8, 8, 8, 8, 8, 8, 8, 8, 8, 8, 8, 8, 8, 8, 8, 8, 8, 8, 8, 8, 8, 8, 8, 8, 8, 8, 8, 8, 8, 8, 8, 8, 8, 8, 8, 8, 8, 8, 8, 8, 8, 8, 8, 8, 8, 8, 8, 8, 8, 8, 8, 8, 8, 8, 8, 8, 8, 8, 8, 8, 8, 8, 8, 8, 8, 8, 8, 8, 8, 8, 8, 8, 8, 8, 8, 8, 8, 8, 8, 8, 8, 8, 8, 8, 8, 8, 8, 8, 8, 8, 8, 8, 8, 8, 8, 8, 8, 8, 8, 8, 8, 8, 8, 8, 8, 8, 8, 8, 8, 8, 8, 8, 8, 8, 8, 8, 8, 8, 8, 8, 8, 8, 8, 8, 8, 8, 8]⟩)) (.t 21)⟩,
      ⟨(some 23), none, .cvi .i64 (.t 22)⟩,
      ⟨(some 24), none, .bin .add (.t 19) (.t 23)⟩,
      ⟨(some 2), none, .mv (.t 24)⟩] [2])
  .ret))))),
  [.t 2]⟩

/- spillway/spillwayref2.signed -/
def an68 : Ann := [[0, 1, 4], [0, 1, 4, 6], [2], [4], [0, 4, 8], [4], [4]]
def fn68 : Vs.Fn := ⟨2,
  (.seq (.rg [⟨(some 4), none, .alloc [(.bool false), (.int .i64 0)]⟩] [0, 1, 4])
  (.seq (.seq (.rg [⟨(some 5), none, .mv (.t 0)⟩,
      ⟨(some 6), none, .bin .gtr (.t 5) (.c (.int .u64 9223372036854775807))⟩] [0, 1, 4, 6])
  (.cond (.t 6)
    (.seq (.rg [⟨(some 7), none, .call 2 (.f 52) []⟩,
        ⟨none, none, .store 2 (.t 4) (.t 7)⟩] [4])
    .ret)
    .skip))
  (.seq (.seq (.rg [⟨(some 8), none, .mv (.t 1)⟩] [0, 4, 8])
  (.cond (.t 8)
    (.seq (.rg [⟨(some 9), none, .mv (.t 0)⟩,
        ⟨(some 10), none, .cvi .i64 (.t 9)⟩,
        ⟨(some 11), none, .un .neg (.t 10)⟩,
        ⟨(some 12), none, .build [(.bool false), (.int .i64 0)] [(1, 1, (.t 11))]⟩,
        ⟨none, none, .store 2 (.t 4) (.t 12)⟩] [4])
    .ret)
    .skip))
  (.seq (.rg [⟨(some 13), none, .mv (.t 0)⟩,
      ⟨(some 14), none, .cvi .i64 (.t 13)⟩,
      ⟨(some 15), none, .build [(.bool false), (.int .i64 0)] [(1, 1, (.t 14))]⟩,
      ⟨none, none, .store 2 (.t 4) (.t 15)⟩] [4])
  .ret)))),
  [.cell 4 true 2]⟩

/- spillway/spillwayref2.Mul -/
def an69 : Ann := [[2, 3, 4], [2], [2, 3, 4, 7], [2], [4], [2], [2], [2], [4]]
def fn69 : Vs.Fn := ⟨2,
  (.seq (.rg [⟨(some 2), none, .box 2 (.t 0)⟩,
      ⟨(some 3), none, .box 2 (.t 1)⟩,
      ⟨(some 4), none, .alloc [(.bool false), (.int .i64 0)]⟩] [2, 3, 4])
  (.seq (.seq (.rg [⟨(some 5), none, .load true 2 (.t 2) false⟩,
      ⟨(some 6), none, .load true 2 (.t 3) false⟩,
      ⟨(some 7), none, .call 2 (.f 61) [(.t 5), (.t 6)]⟩] [2, 3, 4, 7])
  (.cond (.t 7)
    (.seq (.rg [⟨(some 8), none, .call 2 (.f 52) []⟩,
        ⟨none, none, .store 2 (.t 4) (.t 8)⟩] [4])
    .ret)
    .skip))
  (.seq (.rg [⟨(some 9), none, .fad 1 (.t 2)⟩,
      ⟨(some 10), none, .load false 1 (.t 9) false⟩,
      ⟨(some 11), none, .call 2 (.f 63) [(.t 10)]⟩,
      ⟨(some 12), none, .fad 1 (.t 3)⟩,
      ⟨(some 13), none, .load false 1 (.t 12) false⟩,
      ⟨(some 14), none, .call 2 (.f 63) [(.t 13)]⟩,
      ⟨(some 15), none, .fad 1 (.t 2)⟩,
      ⟨(some 16), none, .load false 1 (.t 15) false⟩,
      ⟨(some 17), none, .bin .lss (.t 16) (.c (.int .i64 0))⟩,
      ⟨(some 18), none, .fad 1 (.t 3)⟩,
      ⟨(some 19), none, .load false 1 (.t 18) false⟩,
      ⟨(some 20), none, .bin .lss (.t 19) (.c (.int .i64 0))⟩,
      ⟨(some 21), none, .eqb true (.t 17) (.t 20)⟩,
      ⟨(some 22), none, .call 2 (.f 62) [(.t 11), (.t 14), (.c (.int .u64 1000000)), (.t 21)]⟩,
      ⟨none, none, .store 2 (.t 4) (.t 22)⟩] [4])
  .ret))),
  [.cell 4 true 2]⟩

def pg : Pg := fun f => match f with
  | 3 => some fn3
  | 4 => some fn4
  | 5 => some fn5
  | 6 => some fn6
  | 7 => some fn7
  | 8 => some fn8
  | 9 => some fn9
  | 10 => some fn10
  | 11 => some fn11
  | 12 => some fn12
  | 13 => some fn13
  | 14 => some fn14
  | 15 => some fn15
  | 16 => some fn16
  | 17 => some fn17
  | 18 => some fn18
  | 19 => some fn19
  | 20 => some fn20
  | 21 => some fn21
  | 22 => some fn22
  | 23 => some fn23
  | 24 => some fn24
  | 25 => some fn25
  | 26 => some fn26
  | 27 => some fn27
  | 28 => some fn28
  | 29 => some fn29
  | 30 => some fn30
  | 31 => some fn31
  | 32 => some fn32
  | 33 => some fn33
  | 34 => some fn34
  | 35 => some fn35
  | 36 => some fn36
  | 37 => some fn37
  | 38 => some fn38
  | 39 => some fn39
  | 40 => some fn40
  | 41 => some fn41
  | 42 => some fn42
  | 43 => some fn43
  | 44 => some fn44
  | 46 => some fn46
  | 47 => some fn47
  | 48 => some fn48
  | 49 => some fn49
  | 50 => some fn50
  | 51 => some fn51
  | 52 => some fn52
  | 53 => some fn53
  | 54 => some fn54
  | 55 => some fn55
  | 56 => some fn56
  | 57 => some fn57
  | 58 => some fn58
  | 59 => some fn59
  | 60 => some fn60
  | 61 => some fn61
  | 62 => some fn62
  | 63 => some fn63
  | 64 => some fn64
  | 65 => some fn65
  | 66 => some fn66
  | 67 => some fn67
  | 68 => some fn68
  | 69 => some fn69
  | _ => none

theorem cfn3 : cFn Try.prog an3 Try.f3 = some fn3 := by kernel_rfl
theorem cfn4 : cFn Try.prog an4 Try.f4 = some fn4 := by kernel_rfl
theorem cfn5 : cFn Try.prog an5 Try.f5 = some fn5 := by kernel_rfl
theorem cfn6 : cFn Try.prog an6 Try.f6 = some fn6 := by kernel_rfl
theorem cfn7 : cFn Try.prog an7 Try.f7 = some fn7 := by kernel_rfl
theorem cfn8 : cFn Try.prog an8 Try.f8 = some fn8 := by kernel_rfl
theorem cfn9 : cFn Try.prog an9 Try.f9 = some fn9 := by kernel_rfl
theorem cfn10 : cFn Try.prog an10 Try.f10 = some fn10 := by kernel_rfl
theorem cfn11 : cFn Try.prog an11 Try.f11 = some fn11 := by kernel_rfl
theorem cfn12 : cFn Try.prog an12 Try.f12 = some fn12 := by kernel_rfl
theorem cfn13 : cFn Try.prog an13 Try.f13 = some fn13 := by kernel_rfl
theorem cfn14 : cFn Try.prog an14 Try.f14 = some fn14 := by kernel_rfl
theorem cfn15 : cFn Try.prog an15 Try.f15 = some fn15 := by kernel_rfl
theorem cfn16 : cFn Try.prog an16 Try.f16 = some fn16 := by kernel_rfl
theorem cfn17 : cFn Try.prog an17 Try.f17 = some fn17 := by kernel_rfl
theorem cfn18 : cFn Try.prog an18 Try.f18 = some fn18 := by kernel_rfl
theorem cfn19 : cFn Try.prog an19 Try.f19 = some fn19 := by kernel_rfl
theorem cfn20 : cFn Try.prog an20 Try.f20 = some fn20 := by kernel_rfl
theorem cfn21 : cFn Try.prog an21 Try.f21 = some fn21 := by kernel_rfl
theorem cfn22 : cFn Try.prog an22 Try.f22 = some fn22 := by kernel_rfl
theorem cfn23 : cFn Try.prog an23 Try.f23 = some fn23 := by kernel_rfl
theorem cfn24 : cFn Try.prog an24 Try.f24 = some fn24 := by kernel_rfl
theorem cfn25 : cFn Try.prog an25 Try.f25 = some fn25 := by kernel_rfl
theorem cfn26 : cFn Try.prog an26 Try.f26 = some fn26 := by kernel_rfl
theorem cfn27 : cFn Try.prog an27 Try.f27 = some fn27 := by kernel_rfl
theorem cfn28 : cFn Try.prog an28 Try.f28 = some fn28 := by kernel_rfl
theorem cfn29 : cFn Try.prog an29 Try.f29 = some fn29 := by kernel_rfl
theorem cfn30 : cFn Try.prog an30 Try.f30 = some fn30 := by kernel_rfl
theorem cfn31 : cFn Try.prog an31 Try.f31 = some fn31 := by kernel_rfl
theorem cfn32 : cFn Try.prog an32 Try.f32 = some fn32 := by kernel_rfl
theorem cfn33 : cFn Try.prog an33 Try.f33 = some fn33 := by kernel_rfl
theorem cfn34 : cFn Try.prog an34 Try.f34 = some fn34 := by kernel_rfl
theorem cfn35 : cFn Try.prog an35 Try.f35 = some fn35 := by kernel_rfl
theorem cfn36 : cFn Try.prog an36 Try.f36 = some fn36 := by kernel_rfl
theorem cfn37 : cFn Try.prog an37 Try.f37 = some fn37 := by kernel_rfl
theorem cfn38 : cFn Try.prog an38 Try.f38 = some fn38 := by kernel_rfl
theorem cfn39 : cFn Try.prog an39 Try.f39 = some fn39 := by kernel_rfl
theorem cfn40 : cFn Try.prog an40 Try.f40 = some fn40 := by kernel_rfl
theorem cfn41 : cFn Try.prog an41 Try.f41 = some fn41 := by kernel_rfl
theorem cfn42 : cFn Try.prog an42 Try.f42 = some fn42 := by kernel_rfl
theorem cfn43 : cFn Try.prog an43 Try.f43 = some fn43 := by kernel_rfl
theorem cfn44 : cFn Try.prog an44 Try.f44 = some fn44 := by kernel_rfl
theorem cfn46 : cFn Try.prog an46 Try.f46 = some fn46 := by kernel_rfl
theorem cfn47 : cFn Try.prog an47 Try.f47 = some fn47 := by kernel_rfl
theorem cfn48 : cFn Try.prog an48 Try.f48 = some fn48 := by kernel_rfl
theorem cfn49 : cFn Try.prog an49 Try.f49 = some fn49 := by kernel_rfl
theorem cfn50 : cFn Try.prog an50 Try.f50 = some fn50 := by kernel_rfl
theorem cfn51 : cFn Try.prog an51 Try.f51 = some fn51 := by kernel_rfl
theorem cfn52 : cFn Try.prog an52 Try.f52 = some fn52 := by kernel_rfl
theorem cfn53 : cFn Try.prog an53 Try.f53 = some fn53 := by kernel_rfl
theorem cfn54 : cFn Try.prog an54 Try.f54 = some fn54 := by kernel_rfl
theorem cfn55 : cFn Try.prog an55 Try.f55 = some fn55 := by kernel_rfl
theorem cfn56 : cFn Try.prog an56 Try.f56 = some fn56 := by kernel_rfl
theorem cfn57 : cFn Try.prog an57 Try.f57 = some fn57 := by kernel_rfl
theorem cfn58 : cFn Try.prog an58 Try.f58 = some fn58 := by kernel_rfl
theorem cfn59 : cFn Try.prog an59 Try.f59 = some fn59 := by kernel_rfl
theorem cfn60 : cFn Try.prog an60 Try.f60 = some fn60 := by kernel_rfl
theorem cfn61 : cFn Try.prog an61 Try.f61 = some fn61 := by kernel_rfl
theorem cfn62 : cFn Try.prog an62 Try.f62 = some fn62 := by kernel_rfl
theorem cfn63 : cFn Try.prog an63 Try.f63 = some fn63 := by kernel_rfl
theorem cfn64 : cFn Try.prog an64 Try.f64 = some fn64 := by kernel_rfl
theorem cfn65 : cFn Try.prog an65 Try.f65 = some fn65 := by kernel_rfl
theorem cfn66 : cFn Try.prog an66 Try.f66 = some fn66 := by kernel_rfl
theorem cfn67 : cFn Try.prog an67 Try.f67 = some fn67 := by kernel_rfl
theorem cfn68 : cFn Try.prog an68 Try.f68 = some fn68 := by kernel_rfl
theorem cfn69 : cFn Try.prog an69 Try.f69 = some fn69 := by kernel_rfl

theorem pgOk : PgOk Try.prog pg := by
  intro f fn h
  unfold pg at h
  split at h
  · cases h; exact ⟨Try.f3, an3, Try.func3, of_decide_eq_true (by kernel_rfl), cfn3⟩
  · cases h; exact ⟨Try.f4, an4, Try.func4, of_decide_eq_true (by kernel_rfl), cfn4⟩
  · cases h; exact ⟨Try.f5, an5, Try.func5, of_decide_eq_true (by kernel_rfl), cfn5⟩
  · cases h; exact ⟨Try.f6, an6, Try.func6, of_decide_eq_true (by kernel_rfl), cfn6⟩
  · cases h; exact ⟨Try.f7, an7, Try.func7, of_decide_eq_true (by kernel_rfl), cfn7⟩
  · cases h; exact ⟨Try.f8, an8, Try.func8, of_decide_eq_true (by kernel_rfl), cfn8⟩
  · cases h; exact ⟨Try.f9, an9, Try.func9, of_decide_eq_true (by kernel_rfl), cfn9⟩
  · cases h; exact ⟨Try.f10, an10, Try.func10, of_decide_eq_true (by kernel_rfl), cfn10⟩
  · cases h; exact ⟨Try.f11, an11, Try.func11, of_decide_eq_true (by kernel_rfl), cfn11⟩
  · cases h; exact ⟨Try.f12, an12, Try.func12, of_decide_eq_true (by kernel_rfl), cfn12⟩
  · cases h; exact ⟨Try.f13, an13, Try.func13, of_decide_eq_true (by kernel_rfl), cfn13⟩
  · cases h; exact ⟨Try.f14, an14, Try.func14, of_decide_eq_true (by kernel_rfl), cfn14⟩
  · cases h; exact ⟨Try.f15, an15, Try.func15, of_decide_eq_true (by kernel_rfl), cfn15⟩
  · cases h; exact ⟨Try.f16, an16, Try.func16, of_decide_eq_true (by kernel_rfl), cfn16⟩
  · cases h; exact ⟨Try.f17, an17, Try.func17, of_decide_eq_true (by kernel_rfl), cfn17⟩
  · cases h; exact ⟨Try.f18, an18, Try.func18, of_decide_eq_true (by kernel_rfl), cfn18⟩
  · cases h; exact ⟨Try.f19, an19, Try.func19, of_decide_eq_true (by kernel_rfl), cfn19⟩
  · cases h; exact ⟨Try.f20, an20, Try.func20, of_decide_eq_true (by kernel_rfl), cfn20⟩
  · cases h; exact ⟨Try.f21, an21, Try.func21, of_decide_eq_true (by kernel_rfl), cfn21⟩
  · cases h; exact ⟨Try.f22, an22, Try.func22, of_decide_eq_true (by kernel_rfl), cfn22⟩
  · cases h; exact ⟨Try.f23, an23, Try.func23, of_decide_eq_true (by kernel_rfl), cfn23⟩
  · cases h; exact ⟨Try.f24, an24, Try.func24, of_decide_eq_true (by kernel_rfl), cfn24⟩
  · cases h; exact ⟨Try.f25, an25, Try.func25, of_decide_eq_true (by kernel_rfl), cfn25⟩
  · cases h; exact ⟨Try.f26, an26, Try.func26, of_decide_eq_true (by kernel_rfl), cfn26⟩
  · cases h; exact ⟨Try.f27, an27, Try.func27, of_decide_eq_true (by kernel_rfl), cfn27⟩
  · cases h; exact ⟨Try.f28, an28, Try.func28, of_decide_eq_true (by kernel_rfl), cfn28⟩
  · cases h; exact ⟨Try.f29, an29, Try.func29, of_decide_eq_true (by kernel_rfl), cfn29⟩
  · cases h; exact ⟨Try.f30, an30, Try.func30, of_decide_eq_true (by kernel_rfl), cfn30⟩
  · cases h; exact ⟨Try.f31, an31, Try.func31, of_decide_eq_true (by kernel_rfl), cfn31⟩
  · cases h; exact ⟨Try.f32, an32, Try.func32, of_decide_eq_true (by kernel_rfl), cfn32⟩
  · cases h; exact ⟨Try.f33, an33, Try.func33, of_decide_eq_true (by kernel_rfl), cfn33⟩
  · cases h; exact ⟨Try.f34, an34, Try.func34, of_decide_eq_true (by kernel_rfl), cfn34⟩
  · cases h; exact ⟨Try.f35, an35, Try.func35, of_decide_eq_true (by kernel_rfl), cfn35⟩
  · cases h; exact ⟨Try.f36, an36, Try.func36, of_decide_eq_true (by kernel_rfl), cfn36⟩
  · cases h; exact ⟨Try.f37, an37, Try.func37, of_decide_eq_true (by kernel_rfl), cfn37⟩
  · cases h; exact ⟨Try.f38, an38, Try.func38, of_decide_eq_true (by kernel_rfl), cfn38⟩
  · cases h; exact ⟨Try.f39, an39, Try.func39, of_decide_eq_true (by kernel_rfl), cfn39⟩
  · cases h; exact ⟨Try.f40, an40, Try.func40, of_decide_eq_true (by kernel_rfl), cfn40⟩
  · cases h; exact ⟨Try.f41, an41, Try.func41, of_decide_eq_true (by kernel_rfl), cfn41⟩
  · cases h; exact ⟨Try.f42, an42, Try.func42, of_decide_eq_true (by kernel_rfl), cfn42⟩
  · cases h; exact ⟨Try.f43, an43, Try.func43, of_decide_eq_true (by kernel_rfl), cfn43⟩
  · cases h; exact ⟨Try.f44, an44, Try.func44, of_decide_eq_true (by kernel_rfl), cfn44⟩
  · cases h; exact ⟨Try.f46, an46, Try.func46, of_decide_eq_true (by kernel_rfl), cfn46⟩
  · cases h; exact ⟨Try.f47, an47, Try.func47, of_decide_eq_true (by kernel_rfl), cfn47⟩
  · cases h; exact ⟨Try.f48, an48, Try.func48, of_decide_eq_true (by kernel_rfl), cfn48⟩
  · cases h; exact ⟨Try.f49, an49, Try.func49, of_decide_eq_true (by kernel_rfl), cfn49⟩
  · cases h; exact ⟨Try.f50, an50, Try.func50, of_decide_eq_true (by kernel_rfl), cfn50⟩
  · cases h; exact ⟨Try.f51, an51, Try.func51, of_decide_eq_true (by kernel_rfl), cfn51⟩
  · cases h; exact ⟨Try.f52, an52, Try.func52, of_decide_eq_true (by kernel_rfl), cfn52⟩
  · cases h; exact ⟨Try.f53, an53, Try.func53, of_decide_eq_true (by kernel_rfl), cfn53⟩
  · cases h; exact ⟨Try.f54, an54, Try.func54, of_decide_eq_true (by kernel_rfl), cfn54⟩
  · cases h; exact ⟨Try.f55, an55, Try.func55, of_decide_eq_true (by kernel_rfl), cfn55⟩
  · cases h; exact ⟨Try.f56, an56, Try.func56, of_decide_eq_true (by kernel_rfl), cfn56⟩
  · cases h; exact ⟨Try.f57, an57, Try.func57, of_decide_eq_true (by kernel_rfl), cfn57⟩
  · cases h; exact ⟨Try.f58, an58, Try.func58, of_decide_eq_true (by kernel_rfl), cfn58⟩
  · cases h; exact ⟨Try.f59, an59, Try.func59, of_decide_eq_true (by kernel_rfl), cfn59⟩
  · cases h; exact ⟨Try.f60, an60, Try.func60, of_decide_eq_true (by kernel_rfl), cfn60⟩
  · cases h; exact ⟨Try.f61, an61, Try.func61, of_decide_eq_true (by kernel_rfl), cfn61⟩
  · cases h; exact ⟨Try.f62, an62, Try.func62, of_decide_eq_true (by kernel_rfl), cfn62⟩
  · cases h; exact ⟨Try.f63, an63, Try.func63, of_decide_eq_true (by kernel_rfl), cfn63⟩
  · cases h; exact ⟨Try.f64, an64, Try.func64, of_decide_eq_true (by kernel_rfl), cfn64⟩
  · cases h; exact ⟨Try.f65, an65, Try.func65, of_decide_eq_true (by kernel_rfl), cfn65⟩
  · cases h; exact ⟨Try.f66, an66, Try.func66, of_decide_eq_true (by kernel_rfl), cfn66⟩
  · cases h; exact ⟨Try.f67, an67, Try.func67, of_decide_eq_true (by kernel_rfl), cfn67⟩
  · cases h; exact ⟨Try.f68, an68, Try.func68, of_decide_eq_true (by kernel_rfl), cfn68⟩
  · cases h; exact ⟨Try.f69, an69, Try.func69, of_decide_eq_true (by kernel_rfl), cfn69⟩
  · cases h
end Go.Proofs.Ytdaajnaphkepmaa
