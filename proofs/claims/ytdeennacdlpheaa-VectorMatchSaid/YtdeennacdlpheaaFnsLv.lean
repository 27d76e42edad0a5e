import Derived.Test.YtdeennacdlpheaaChecked
import Derived.Test.YtdeennacdlpheaaVsIns3
namespace Go.Proofs.Ytdeennacdlpheaa
open Go Go.Vs
set_option maxRecDepth 100000

/- spillway/spillwaylaw17.VectorMatch -/
def an3 : Ann := [[0, 1, 2], [2], [0, 1, 2, 17], [6], [0, 1, 2, 7, 8], [0, 1, 2, 7, 8, 9], [0, 1, 2, 7, 8, 9], [0, 1, 2, 7, 8, 9, 22], [0], [0, 1, 2, 7, 8, 9], [0, 1, 2, 7, 8, 9], [1, 2, 7, 8, 10], [1, 2, 7, 8, 10, 35], [1, 2, 7, 8, 10], [1, 2, 7, 8, 10, 11], [1, 2, 7, 8, 10, 11], [1, 2, 7, 8, 10, 11, 40], [0], [1, 2, 7, 8, 10, 11], [1, 2, 7, 8, 10, 11], [1], [2, 7, 8, 12, 13], [2, 12, 13, 14, 15], [12, 13, 14, 15, 64], [6], [12, 13, 82], [2], [6], [6]]
def fn3B0 : Cd :=
  (.seq (.seq (.rg [⟨(some 18), none, .mv (.t 9)⟩,
      ⟨(some 19), none, .mv (.t 0)⟩,
      ⟨(some 20), none, .bin .rem (.t 19) (.c (.int .u8 5))⟩,
      ⟨(some 21), none, .cvi .i64 (.t 20)⟩,
      ⟨(some 22), none, .bin .lss (.t 18) (.t 21)⟩] [0, 1, 2, 7, 8, 9, 22])
  (.cond (.t 22)
    .skip
    (.exit 0)))
  (.seq (.block 1
    (.rg [⟨(some 25), none, .mv (.t 7)⟩,
        ⟨(some 26), none, .mv (.t 9)⟩,
        ⟨(some 27), none, .cvi .u8 (.t 26)⟩,
        ⟨(some 28), none, .bin .add (.c (.int .u8 97)) (.t 27)⟩,
        ⟨(some 29), none, .bslice 1 1 [(.int .u8 0)] [(0, (.t 28))]⟩,
        ⟨(some 30), none, .cvbs (.t 29)⟩,
        ⟨(some 31), none, .call 0 (.f 9) [(.c (.string ⟨#[120]⟩)), (.t 30), (.c (.int .i64 2))]⟩,
        ⟨(some 32), none, .bslice 1 3 [.nsl, (.bool false), (.int .i64 0)] [(0, (.t 31))]⟩,
        ⟨(some 33), none, .app 3 40 (.t 25) (.t 32)⟩,
        ⟨(some 7), none, .mv (.t 33)⟩] [0, 1, 2, 7, 8, 9]))
  (.rg [⟨(some 23), none, .mv (.t 9)⟩,
      ⟨(some 24), none, .bin .add (.t 23) (.c (.int .i64 1))⟩,
      ⟨(some 9), none, .mv (.t 24)⟩] [0, 1, 2, 7, 8, 9])))
def fn3L0 : Cd := .loop [0, 1, 2, 7, 8, 9] fn3B0
def fn3B1 : Cd :=
  (.seq (.seq (.rg [⟨(some 36), none, .mv (.t 11)⟩,
      ⟨(some 37), none, .mv (.t 1)⟩,
      ⟨(some 38), none, .bin .rem (.t 37) (.c (.int .u8 5))⟩,
      ⟨(some 39), none, .cvi .i64 (.t 38)⟩,
      ⟨(some 40), none, .bin .lss (.t 36) (.t 39)⟩] [1, 2, 7, 8, 10, 11, 40])
  (.cond (.t 40)
    .skip
    (.exit 2)))
  (.seq (.block 3
    (.rg [⟨(some 43), none, .mv (.t 8)⟩,
        ⟨(some 44), none, .mv (.t 10)⟩,
        ⟨(some 45), none, .mv (.t 11)⟩,
        ⟨(some 46), none, .cvi .u8 (.t 45)⟩,
        ⟨(some 47), none, .bin .add (.c (.int .u8 112)) (.t 46)⟩,
        ⟨(some 48), none, .bslice 1 1 [(.int .u8 0)] [(0, (.t 47))]⟩,
        ⟨(some 49), none, .cvbs (.t 48)⟩,
        ⟨(some 50), none, .call 0 (.f 9) [(.t 44), (.t 49), (.c (.int .i64 3))]⟩,
        ⟨(some 51), none, .bslice 1 3 [.nsl, (.bool false), (.int .i64 0)] [(0, (.t 50))]⟩,
        ⟨(some 52), none, .app 3 40 (.t 43) (.t 51)⟩,
        ⟨(some 8), none, .mv (.t 52)⟩] [1, 2, 7, 8, 10, 11]))
  (.rg [⟨(some 41), none, .mv (.t 11)⟩,
      ⟨(some 42), none, .bin .add (.t 41) (.c (.int .i64 1))⟩,
      ⟨(some 11), none, .mv (.t 42)⟩] [1, 2, 7, 8, 10, 11])))
def fn3L1 : Cd := .loop [1, 2, 7, 8, 10, 11] fn3B1
def fn3 : Vs.Fn := ⟨3,
  (.seq (.rg [⟨(some 6), none, .mv (.c (.bool false))⟩] [0, 1, 2])
  (.seq (.seq (.rg [⟨(some 16), none, .call 2 (.f 8) []⟩,
      ⟨(some 17), none, .un .not (.t 16)⟩] [0, 1, 2, 17])
  (.cond (.t 17)
    (.seq (.rg [⟨(some 6), none, .mv (.c (.bool false))⟩] [6])
    .ret)
    .skip))
  (.seq (.rg [⟨(some 7), none, .mv (.c (.slice none 0 0))⟩,
      ⟨(some 8), none, .mv (.c (.slice none 0 0))⟩] [0, 1, 2, 7, 8])
  (.seq (.seq (.rg [⟨(some 9), none, .mv (.c (.int .i64 0))⟩] [0, 1, 2, 7, 8, 9])
  (.block 0
    fn3L0))
  (.seq (.rg [⟨(some 10), none, .mv (.c (.string ⟨#[120]⟩))⟩] [1, 2, 7, 8, 10])
  (.seq (.seq (.rg [⟨(some 34), none, .mv (.t 2)⟩,
      ⟨(some 35), none, .un .not (.t 34)⟩] [1, 2, 7, 8, 10, 35])
  (.cond (.t 35)
    (.rg [⟨(some 10), none, .mv (.c (.string ⟨#[121]⟩))⟩] [1, 2, 7, 8, 10])
    .skip))
  (.seq (.seq (.rg [⟨(some 11), none, .mv (.c (.int .i64 0))⟩] [1, 2, 7, 8, 10, 11])
  (.block 2
    fn3L1))
  (.seq (.rg [⟨(some 54), none, .mv (.t 7)⟩,
      ⟨(some 55), none, .mv (.t 8)⟩,
      ⟨(some 56), none, .bslice 1 1 [(.str ⟨#[]⟩)] [(0, (.c (.string ⟨#[97]⟩)))]⟩,
      ⟨(some 57), none, .call 1 (.f 10) [(.c (.string ⟨#[42]⟩)), (.t 54), (.t 55), (.c (.bool true)), (.c (.bool false)), (.t 56)]⟩,
      ⟨(some 53), none, .mv (.t 57)⟩,
      ⟨(some 58), none, .ext (.t 53) 0⟩,
      ⟨(some 59), none, .ext (.t 53) 1⟩,
      ⟨(some 12), none, .mv (.t 58)⟩,
      ⟨(some 13), none, .mv (.t 59)⟩] [2, 7, 8, 12, 13])
  (.seq (.rg [⟨(some 60), none, .mv (.t 7)⟩,
      ⟨(some 61), none, .len false (.t 60)⟩,
      ⟨(some 62), none, .mv (.t 8)⟩,
      ⟨(some 63), none, .len false (.t 62)⟩,
      ⟨(some 14), none, .mv (.t 61)⟩,
      ⟨(some 15), none, .mv (.t 63)⟩] [2, 12, 13, 14, 15])
  (.seq (.block 4
    (.seq (.rg [⟨(some 65), none, .mv (.t 2)⟩,
        ⟨(some 66), none, .un .not (.t 65)⟩,
        ⟨(some 67), none, .mv (.t 66)⟩,
        ⟨(some 68), some (67, false), .mv (.t 14)⟩,
        ⟨(some 69), some (67, false), .bin .eql (.t 68) (.c (.int .i64 0))⟩,
        ⟨(some 70), none, .pick (.t 67) (.c (.bool true)) (.t 69)⟩,
        ⟨(some 71), none, .mv (.t 70)⟩,
        ⟨(some 72), some (71, false), .mv (.t 15)⟩,
        ⟨(some 73), some (71, false), .bin .eql (.t 72) (.c (.int .i64 0))⟩,
        ⟨(some 74), none, .pick (.t 71) (.c (.bool true)) (.t 73)⟩,
        ⟨(some 64), none, .mv (.t 74)⟩] [12, 13, 14, 15, 64])
    (.cond (.t 64)
      (.seq (.rg [⟨(some 75), none, .mv (.t 13)⟩,
          ⟨(some 76), none, .bin .eql (.t 75) (.c (.int .i64 0))⟩,
          ⟨(some 77), none, .mv (.t 76)⟩,
          ⟨(some 78), some (77, true), .mv (.t 12)⟩,
          ⟨(some 79), some (77, true), .len false (.t 78)⟩,
          ⟨(some 80), some (77, true), .bin .eql (.t 79) (.c (.int .i64 0))⟩,
          ⟨(some 81), none, .pick (.t 77) (.t 80) (.c (.bool false))⟩,
          ⟨(some 6), none, .mv (.t 81)⟩] [6])
      .ret)
      (.seq (.rg [⟨(some 83), none, .mv (.t 14)⟩,
          ⟨(some 84), none, .bin .eql (.t 83) (.c (.int .i64 1))⟩,
          ⟨(some 85), none, .mv (.t 84)⟩,
          ⟨(some 86), some (85, true), .mv (.t 15)⟩,
          ⟨(some 87), some (85, true), .bin .eql (.t 86) (.c (.int .i64 1))⟩,
          ⟨(some 88), none, .pick (.t 85) (.t 87) (.c (.bool false))⟩,
          ⟨(some 82), none, .mv (.t 88)⟩] [12, 13, 82])
      (.cond (.t 82)
        (.seq (.rg [⟨(some 89), none, .mv (.t 13)⟩,
            ⟨(some 90), none, .bin .eql (.t 89) (.c (.int .i64 0))⟩,
            ⟨(some 91), none, .mv (.t 90)⟩,
            ⟨(some 92), some (91, true), .mv (.t 12)⟩,
            ⟨(some 93), some (91, true), .len false (.t 92)⟩,
            ⟨(some 94), some (91, true), .bin .eql (.t 93) (.c (.int .i64 1))⟩,
            ⟨(some 95), none, .pick (.t 91) (.t 94) (.c (.bool false))⟩,
            ⟨(some 96), none, .mv (.t 95)⟩,
            ⟨(some 97), some (96, true), .mv (.t 12)⟩,
            ⟨(some 98), some (96, true), .iad 3 (.t 97) (.c (.int .i64 0))⟩,
            ⟨(some 99), some (96, true), .fad 1 (.t 98)⟩,
            ⟨(some 100), some (96, true), .load true 2 (.t 99) false⟩,
            ⟨(some 101), some (96, true), .call 2 (.f 11) [(.c (.int .i64 6))]⟩,
            ⟨(some 102), some (96, true), .eqs false [0, 1] (.t 100) (.t 101)⟩,
            ⟨(some 103), none, .pick (.t 96) (.t 102) (.c (.bool false))⟩,
            ⟨(some 104), none, .mv (.t 103)⟩,
            ⟨(some 105), some (104, true), .mv (.t 12)⟩,
            ⟨(some 106), some (104, true), .iad 3 (.t 105) (.c (.int .i64 0))⟩,
            ⟨(some 107), some (104, true), .fad 0 (.t 106)⟩,
            ⟨(some 108), some (104, true), .load false 1 (.t 107) false⟩,
            ⟨(some 109), some (104, true), .len false (.t 108)⟩,
            ⟨(some 110), some (104, true), .bin .eql (.t 109) (.c (.int .i64 1))⟩,
            ⟨(some 111), none, .pick (.t 104) (.t 110) (.c (.bool false))⟩,
            ⟨(some 112), none, .mv (.t 111)⟩,
            ⟨(some 113), some (112, true), .mv (.t 12)⟩,
            ⟨(some 114), some (112, true), .iad 3 (.t 113) (.c (.int .i64 0))⟩,
            ⟨(some 115), some (112, true), .fad 0 (.t 114)⟩,
            ⟨(some 116), some (112, true), .load false 1 (.t 115) false⟩,
            ⟨(some 117), some (112, true), .iad 2 (.t 116) (.c (.int .i64 0))⟩,
            ⟨(some 118), some (112, true), .fad 1 (.t 117)⟩,
            ⟨(some 119), some (112, true), .load false 1 (.t 118) false⟩,
            ⟨(some 120), some (112, true), .bin .eql (.t 119) (.c (.string ⟨#[120]⟩))⟩,
            ⟨(some 121), none, .pick (.t 112) (.t 120) (.c (.bool false))⟩,
            ⟨(some 6), none, .mv (.t 121)⟩] [6])
        .ret)
        .skip)))))
  (.seq (.rg [⟨(some 122), none, .mv (.t 13)⟩,
      ⟨(some 123), none, .bin .eql (.t 122) (.c (.int .i64 170))⟩,
      ⟨(some 124), none, .mv (.t 123)⟩,
      ⟨(some 125), some (124, true), .mv (.t 12)⟩,
      ⟨(some 126), some (124, true), .len false (.t 125)⟩,
      ⟨(some 127), some (124, true), .bin .eql (.t 126) (.c (.int .i64 0))⟩,
      ⟨(some 128), none, .pick (.t 124) (.t 127) (.c (.bool false))⟩,
      ⟨(some 6), none, .mv (.t 128)⟩] [6])
  .ret))))))))))),
  [.t 6]⟩

/- spillway/spillwaylaw17.VectorBare -/
def an6 : Ann := [[0, 1], [2], [0, 1, 16], [4], [0, 1, 5], [1, 5, 6], [1, 5, 6, 7], [1, 5, 6, 7], [1, 5, 6, 7, 23], [1, 5, 6, 7, 8], [1, 5, 6, 7, 8, 27], [1, 5, 6, 7, 8], [2], [1, 5, 6, 7], [1, 5, 6, 7], [1], [1, 5, 6, 9, 10], [1], [1, 5, 6, 9, 10, 11, 12], [2], [1], [1, 6, 9, 10, 11, 12, 13, 14], [6, 9, 10, 11, 12, 13, 14, 68], [4], [2], [2], [2], [4]]
def fn6B0 : Cd :=
  (.seq (.seq (.rg [⟨(some 21), none, .mv (.t 7)⟩,
      ⟨(some 22), none, .mv (.t 6)⟩,
      ⟨(some 23), none, .bin .lss (.t 21) (.t 22)⟩] [1, 5, 6, 7, 23])
  (.cond (.t 23)
    .skip
    (.exit 0)))
  (.seq (.block 1
    (.seq (.rg [⟨(some 8), none, .mv (.c (.string ⟨#[120]⟩))⟩] [1, 5, 6, 7, 8])
    (.seq (.seq (.rg [⟨(some 26), none, .mv (.t 1)⟩,
        ⟨(some 27), none, .un .not (.t 26)⟩] [1, 5, 6, 7, 8, 27])
    (.cond (.t 27)
      (.rg [⟨(some 28), none, .mv (.t 7)⟩,
          ⟨(some 29), none, .cvi .u8 (.t 28)⟩,
          ⟨(some 30), none, .bin .add (.c (.int .u8 97)) (.t 29)⟩,
          ⟨(some 31), none, .bslice 1 1 [(.int .u8 0)] [(0, (.t 30))]⟩,
          ⟨(some 32), none, .cvbs (.t 31)⟩,
          ⟨(some 8), none, .mv (.t 32)⟩] [1, 5, 6, 7, 8])
      .skip))
    (.rg [⟨(some 33), none, .mv (.t 5)⟩,
        ⟨(some 34), none, .mv (.t 7)⟩,
        ⟨(some 35), none, .cvi .u8 (.t 34)⟩,
        ⟨(some 36), none, .bin .add (.c (.int .u8 97)) (.t 35)⟩,
        ⟨(some 37), none, .bslice 2 1 [(.int .u8 0)] [(0, (.c (.int .u8 109))), (1, (.t 36))]⟩,
        ⟨(some 38), none, .cvbs (.t 37)⟩,
        ⟨(some 39), none, .build [(.str ⟨#[]⟩), (.str ⟨#[]⟩)] [(0, 1, (.c (.string ⟨#[95, 95, 110, 97, 109, 101, 95, 95]⟩))), (1, 1, (.t 38))]⟩,
        ⟨(some 40), none, .mv (.t 8)⟩,
        ⟨(some 41), none, .build [(.str ⟨#[]⟩), (.str ⟨#[]⟩)] [(0, 1, (.c (.string ⟨#[118]⟩))), (1, 1, (.t 40))]⟩,
        ⟨(some 42), none, .bslice 2 2 [(.str ⟨#[]⟩), (.str ⟨#[]⟩)] [(0, (.t 39)), (1, (.t 41))]⟩,
        ⟨(some 43), none, .mv (.t 7)⟩,
        ⟨(some 44), none, .call 2 (.f 11) [(.t 43)]⟩,
        ⟨(some 45), none, .build [.nsl, (.bool false), (.int .i64 0)] [(0, 1, (.t 42)), (1, 2, (.t 44))]⟩,
        ⟨(some 46), none, .bslice 1 3 [.nsl, (.bool false), (.int .i64 0)] [(0, (.t 45))]⟩,
        ⟨(some 47), none, .app 3 40 (.t 33) (.t 46)⟩,
        ⟨(some 5), none, .mv (.t 47)⟩] [1, 5, 6, 7]))))
  (.rg [⟨(some 24), none, .mv (.t 7)⟩,
      ⟨(some 25), none, .bin .add (.t 24) (.c (.int .i64 1))⟩,
      ⟨(some 7), none, .mv (.t 25)⟩] [1, 5, 6, 7])))
def fn6L0 : Cd := .loop [1, 5, 6, 7] fn6B0
def fn6 : Vs.Fn := ⟨2,
  (.seq (.rg [⟨(some 4), none, .mv (.c (.bool false))⟩] [0, 1])
  (.seq (.seq (.rg [⟨(some 15), none, .call 2 (.f 8) []⟩,
      ⟨(some 16), none, .un .not (.t 15)⟩] [0, 1, 16])
  (.cond (.t 16)
    (.seq (.rg [⟨(some 4), none, .mv (.c (.bool false))⟩] [4])
    .ret)
    .skip))
  (.seq (.rg [⟨(some 5), none, .mv (.c (.slice none 0 0))⟩] [0, 1, 5])
  (.seq (.rg [⟨(some 17), none, .mv (.t 0)⟩,
      ⟨(some 18), none, .bin .rem (.t 17) (.c (.int .u8 6))⟩,
      ⟨(some 19), none, .cvi .i64 (.t 18)⟩,
      ⟨(some 20), none, .bin .add (.t 19) (.c (.int .i64 1))⟩,
      ⟨(some 6), none, .mv (.t 20)⟩] [1, 5, 6])
  (.seq (.seq (.rg [⟨(some 7), none, .mv (.c (.int .i64 0))⟩] [1, 5, 6, 7])
  (.block 0
    fn6L0))
  (.seq (.rg [⟨(some 49), none, .mv (.t 5)⟩,
      ⟨(some 50), none, .call 1 (.f 20) [(.t 49)]⟩,
      ⟨(some 48), none, .mv (.t 50)⟩,
      ⟨(some 51), none, .ext (.t 48) 0⟩,
      ⟨(some 52), none, .ext (.t 48) 1⟩,
      ⟨(some 9), none, .mv (.t 51)⟩,
      ⟨(some 10), none, .mv (.t 52)⟩] [1, 5, 6, 9, 10])
  (.seq (.rg [⟨(some 54), none, .mv (.t 5)⟩,
      ⟨(some 55), none, .call 1 (.f 21) [(.t 54)]⟩,
      ⟨(some 53), none, .mv (.t 55)⟩,
      ⟨(some 56), none, .ext (.t 53) 0⟩,
      ⟨(some 57), none, .ext (.t 53) 1⟩,
      ⟨(some 11), none, .mv (.t 56)⟩,
      ⟨(some 12), none, .mv (.t 57)⟩] [1, 5, 6, 9, 10, 11, 12])
  (.seq (.rg [⟨(some 59), none, .mv (.t 5)⟩,
      ⟨(some 60), none, .call 2 (.f 11) [(.c (.int .i64 1))]⟩,
      ⟨(some 61), none, .call 1 (.f 22) [(.c (.string ⟨#[43]⟩)), (.t 59), (.t 60), (.c (.bool false))]⟩,
      ⟨(some 58), none, .mv (.t 61)⟩,
      ⟨(some 62), none, .ext (.t 58) 0⟩,
      ⟨(some 63), none, .ext (.t 58) 1⟩,
      ⟨(some 13), none, .mv (.t 62)⟩,
      ⟨(some 14), none, .mv (.t 63)⟩] [1, 6, 9, 10, 11, 12, 13, 14])
  (.seq (.seq (.rg [⟨(some 64), none, .mv (.t 1)⟩,
      ⟨(some 65), none, .mv (.t 64)⟩,
      ⟨(some 66), some (65, true), .mv (.t 6)⟩,
      ⟨(some 67), some (65, true), .bin .gtr (.t 66) (.c (.int .i64 1))⟩,
      ⟨(some 68), none, .pick (.t 65) (.t 67) (.c (.bool false))⟩] [6, 9, 10, 11, 12, 13, 14, 68])
  (.cond (.t 68)
    (.seq (.rg [⟨(some 69), none, .mv (.t 10)⟩,
        ⟨(some 70), none, .bin .eql (.t 69) (.c (.int .i64 171))⟩,
        ⟨(some 71), none, .mv (.t 70)⟩,
        ⟨(some 72), some (71, true), .mv (.t 12)⟩,
        ⟨(some 73), some (71, true), .bin .eql (.t 72) (.c (.int .i64 171))⟩,
        ⟨(some 74), none, .pick (.t 71) (.t 73) (.c (.bool false))⟩,
        ⟨(some 75), none, .mv (.t 74)⟩,
        ⟨(some 76), some (75, true), .mv (.t 14)⟩,
        ⟨(some 77), some (75, true), .bin .eql (.t 76) (.c (.int .i64 171))⟩,
        ⟨(some 78), none, .pick (.t 75) (.t 77) (.c (.bool false))⟩,
        ⟨(some 79), none, .mv (.t 78)⟩,
        ⟨(some 80), some (79, true), .mv (.t 9)⟩,
        ⟨(some 81), some (79, true), .len false (.t 80)⟩,
        ⟨(some 82), some (79, true), .mv (.t 11)⟩,
        ⟨(some 83), some (79, true), .len false (.t 82)⟩,
        ⟨(some 84), some (79, true), .bin .add (.t 81) (.t 83)⟩,
        ⟨(some 85), some (79, true), .mv (.t 13)⟩,
        ⟨(some 86), some (79, true), .len false (.t 85)⟩,
        ⟨(some 87), some (79, true), .bin .add (.t 84) (.t 86)⟩,
        ⟨(some 88), some (79, true), .bin .eql (.t 87) (.c (.int .i64 0))⟩,
        ⟨(some 89), none, .pick (.t 79) (.t 88) (.c (.bool false))⟩,
        ⟨(some 4), none, .mv (.t 89)⟩] [4])
    .ret)
    .skip))
  (.seq (.rg [⟨(some 90), none, .mv (.t 10)⟩,
      ⟨(some 91), none, .bin .eql (.t 90) (.c (.int .i64 0))⟩,
      ⟨(some 92), none, .mv (.t 91)⟩,
      ⟨(some 93), some (92, true), .mv (.t 12)⟩,
      ⟨(some 94), some (92, true), .bin .eql (.t 93) (.c (.int .i64 0))⟩,
      ⟨(some 95), none, .pick (.t 92) (.t 94) (.c (.bool false))⟩,
      ⟨(some 96), none, .mv (.t 95)⟩,
      ⟨(some 97), some (96, true), .mv (.t 14)⟩,
      ⟨(some 98), some (96, true), .bin .eql (.t 97) (.c (.int .i64 0))⟩,
      ⟨(some 99), none, .pick (.t 96) (.t 98) (.c (.bool false))⟩,
      ⟨(some 100), none, .mv (.t 99)⟩,
      ⟨(some 101), some (100, true), .mv (.t 9)⟩,
      ⟨(some 102), some (100, true), .len false (.t 101)⟩,
      ⟨(some 103), some (100, true), .mv (.t 6)⟩,
      ⟨(some 104), some (100, true), .bin .eql (.t 102) (.t 103)⟩,
      ⟨(some 105), none, .pick (.t 100) (.t 104) (.c (.bool false))⟩,
      ⟨(some 106), none, .mv (.t 105)⟩,
      ⟨(some 107), some (106, true), .mv (.t 9)⟩,
      ⟨(some 108), some (106, true), .mv (.t 6)⟩,
      ⟨(some 109), some (106, true), .bin .sub (.t 108) (.c (.int .i64 1))⟩,
      ⟨(some 110), some (106, true), .iad 3 (.t 107) (.t 109)⟩,
      ⟨(some 111), some (106, true), .fad 1 (.t 110)⟩,
      ⟨(some 112), some (106, true), .load true 2 (.t 111) false⟩,
      ⟨(some 113), some (106, true), .mv (.t 6)⟩,
      ⟨(some 114), some (106, true), .bin .sub (.t 113) (.c (.int .i64 1))⟩,
      ⟨(some 115), some (106, true), .call 2 (.f 11) [(.t 114)]⟩,
      ⟨(some 116), some (106, true), .eqs false [0, 1] (.t 112) (.t 115)⟩,
      ⟨(some 117), none, .pick (.t 106) (.t 116) (.c (.bool false))⟩,
      ⟨(some 118), none, .mv (.t 117)⟩,
      ⟨(some 119), some (118, true), .mv (.t 11)⟩,
      ⟨(some 120), some (118, true), .mv (.t 6)⟩,
      ⟨(some 121), some (118, true), .bin .sub (.t 120) (.c (.int .i64 1))⟩,
      ⟨(some 122), some (118, true), .iad 3 (.t 119) (.t 121)⟩,
      ⟨(some 123), some (118, true), .fad 1 (.t 122)⟩,
      ⟨(some 124), some (118, true), .load true 2 (.t 123) false⟩,
      ⟨(some 125), some (118, true), .mv (.t 6)⟩,
      ⟨(some 126), some (118, true), .bin .sub (.t 125) (.c (.int .i64 1))⟩,
      ⟨(some 127), some (118, true), .un .neg (.t 126)⟩,
      ⟨(some 128), some (118, true), .call 2 (.f 11) [(.t 127)]⟩,
      ⟨(some 129), some (118, true), .eqs false [0, 1] (.t 124) (.t 128)⟩,
      ⟨(some 130), none, .pick (.t 118) (.t 129) (.c (.bool false))⟩,
      ⟨(some 131), none, .mv (.t 130)⟩,
      ⟨(some 132), some (131, true), .mv (.t 13)⟩,
      ⟨(some 133), some (131, true), .mv (.t 6)⟩,
      ⟨(some 134), some (131, true), .bin .sub (.t 133) (.c (.int .i64 1))⟩,
      ⟨(some 135), some (131, true), .iad 3 (.t 132) (.t 134)⟩,
      ⟨(some 136), some (131, true), .fad 1 (.t 135)⟩,
      ⟨(some 137), some (131, true), .load true 2 (.t 136) false⟩,
      ⟨(some 138), some (131, true), .mv (.t 6)⟩,
      ⟨(some 139), some (131, true), .call 2 (.f 11) [(.t 138)]⟩,
      ⟨(some 140), some (131, true), .eqs false [0, 1] (.t 137) (.t 139)⟩,
      ⟨(some 141), none, .pick (.t 131) (.t 140) (.c (.bool false))⟩,
      ⟨(some 142), none, .mv (.t 141)⟩,
      ⟨(some 143), some (142, true), .mv (.t 9)⟩,
      ⟨(some 144), some (142, true), .iad 3 (.t 143) (.c (.int .i64 0))⟩,
      ⟨(some 145), some (142, true), .fad 0 (.t 144)⟩,
      ⟨(some 146), some (142, true), .load false 1 (.t 145) false⟩,
      ⟨(some 147), some (142, true), .len false (.t 146)⟩,
      ⟨(some 148), some (142, true), .bin .eql (.t 147) (.c (.int .i64 1))⟩,
      ⟨(some 149), none, .pick (.t 142) (.t 148) (.c (.bool false))⟩,
      ⟨(some 4), none, .mv (.t 149)⟩] [4])
  .ret)))))))))),
  [.t 4]⟩

/- spillway/spillwaylaw17.known -/
def an8 : Ann := [[], [2], [2], [1], [1], [1, 2, 3], [1], [1, 2, 3, 4, 5], [1], [1, 2, 3, 4, 5, 7], [1], [1, 2, 3, 4, 5, 7, 9], [2], [0], [2], [2], [0]]
def fn8 : Vs.Fn := ⟨0,
  (.seq (.rg [⟨(some 0), none, .mv (.c (.bool false))⟩] [])
  (.seq (.rg [⟨(some 10), none, .build [(.str ⟨#[]⟩), (.str ⟨#[]⟩)] [(0, 1, (.c (.string ⟨#[120]⟩))), (1, 1, (.c (.string ⟨#[50]⟩)))]⟩,
      ⟨(some 11), none, .bslice 1 2 [(.str ⟨#[]⟩), (.str ⟨#[]⟩)] [(0, (.t 10))]⟩,
      ⟨(some 12), none, .call 2 (.f 11) [(.c (.int .i64 1))]⟩,
      ⟨(some 13), none, .build [.nsl, (.bool false), (.int .i64 0)] [(0, 1, (.t 11)), (1, 2, (.t 12))]⟩,
      ⟨(some 14), none, .build [(.str ⟨#[]⟩), (.str ⟨#[]⟩)] [(0, 1, (.c (.string ⟨#[120]⟩))), (1, 1, (.c (.string ⟨#[49]⟩)))]⟩,
      ⟨(some 15), none, .bslice 1 2 [(.str ⟨#[]⟩), (.str ⟨#[]⟩)] [(0, (.t 14))]⟩,
      ⟨(some 16), none, .call 2 (.f 11) [(.c (.int .i64 2))]⟩,
      ⟨(some 17), none, .build [.nsl, (.bool false), (.int .i64 0)] [(0, 1, (.t 15)), (1, 2, (.t 16))]⟩,
      ⟨(some 18), none, .bslice 2 3 [.nsl, (.bool false), (.int .i64 0)] [(0, (.t 13)), (1, (.t 17))]⟩,
      ⟨(some 1), none, .mv (.t 18)⟩] [1])
  (.seq (.rg [⟨(some 20), none, .mv (.t 1)⟩,
      ⟨(some 21), none, .call 1 (.f 14) [(.c (.string ⟨#[115, 117, 109]⟩)), (.t 20), (.c (.bool false)), (.c (.bool false)), (.c (.slice none 0 0))]⟩,
      ⟨(some 19), none, .mv (.t 21)⟩,
      ⟨(some 22), none, .ext (.t 19) 0⟩,
      ⟨(some 23), none, .ext (.t 19) 1⟩,
      ⟨(some 2), none, .mv (.t 22)⟩,
      ⟨(some 3), none, .mv (.t 23)⟩] [1, 2, 3])
  (.seq (.rg [⟨(some 25), none, .mv (.t 1)⟩,
      ⟨(some 26), none, .mv (.t 1)⟩,
      ⟨(some 27), none, .bslice 1 1 [(.str ⟨#[]⟩)] [(0, (.c (.string ⟨#[120]⟩)))]⟩,
      ⟨(some 28), none, .call 1 (.f 10) [(.c (.string ⟨#[45]⟩)), (.t 25), (.t 26), (.c (.bool true)), (.c (.bool false)), (.t 27)]⟩,
      ⟨(some 24), none, .mv (.t 28)⟩,
      ⟨(some 29), none, .ext (.t 24) 0⟩,
      ⟨(some 30), none, .ext (.t 24) 1⟩,
      ⟨(some 4), none, .mv (.t 29)⟩,
      ⟨(some 5), none, .mv (.t 30)⟩] [1, 2, 3, 4, 5])
  (.seq (.rg [⟨(some 32), none, .mv (.t 1)⟩,
      ⟨(some 33), none, .mv (.t 1)⟩,
      ⟨(some 34), none, .call 1 (.f 10) [(.c (.string ⟨#[43]⟩)), (.t 32), (.t 33), (.c (.bool true)), (.c (.bool false)), (.c (.slice none 0 0))]⟩,
      ⟨(some 31), none, .mv (.t 34)⟩,
      ⟨(some 35), none, .ext (.t 31) 0⟩,
      ⟨(some 36), none, .ext (.t 31) 1⟩,
      ⟨(some 6), none, .mv (.t 35)⟩,
      ⟨(some 7), none, .mv (.t 36)⟩] [1, 2, 3, 4, 5, 7])
  (.seq (.rg [⟨(some 38), none, .mv (.t 1)⟩,
      ⟨(some 39), none, .call 1 (.f 14) [(.c (.string ⟨#[119, 104, 97, 116]⟩)), (.t 38), (.c (.bool false)), (.c (.bool false)), (.c (.slice none 0 0))]⟩,
      ⟨(some 37), none, .mv (.t 39)⟩,
      ⟨(some 40), none, .ext (.t 37) 0⟩,
      ⟨(some 41), none, .ext (.t 37) 1⟩,
      ⟨(some 8), none, .mv (.t 40)⟩,
      ⟨(some 9), none, .mv (.t 41)⟩] [1, 2, 3, 4, 5, 7, 9])
  (.seq (.rg [⟨(some 42), none, .mv (.t 3)⟩,
      ⟨(some 43), none, .bin .eql (.t 42) (.c (.int .i64 0))⟩,
      ⟨(some 44), none, .mv (.t 43)⟩,
      ⟨(some 45), some (44, true), .mv (.t 2)⟩,
      ⟨(some 46), some (44, true), .len false (.t 45)⟩,
      ⟨(some 47), some (44, true), .bin .eql (.t 46) (.c (.int .i64 1))⟩,
      ⟨(some 48), none, .pick (.t 44) (.t 47) (.c (.bool false))⟩,
      ⟨(some 49), none, .mv (.t 48)⟩,
      ⟨(some 50), some (49, true), .mv (.t 2)⟩,
      ⟨(some 51), some (49, true), .iad 3 (.t 50) (.c (.int .i64 0))⟩,
      ⟨(some 52), some (49, true), .fad 1 (.t 51)⟩,
      ⟨(some 53), some (49, true), .load true 2 (.t 52) false⟩,
      ⟨(some 54), some (49, true), .call 2 (.f 11) [(.c (.int .i64 3))]⟩,
      ⟨(some 55), some (49, true), .eqs false [0, 1] (.t 53) (.t 54)⟩,
      ⟨(some 56), none, .pick (.t 49) (.t 55) (.c (.bool false))⟩,
      ⟨(some 57), none, .mv (.t 56)⟩,
      ⟨(some 58), some (57, true), .mv (.t 2)⟩,
      ⟨(some 59), some (57, true), .iad 3 (.t 58) (.c (.int .i64 0))⟩,
      ⟨(some 60), some (57, true), .fad 0 (.t 59)⟩,
      ⟨(some 61), some (57, true), .load false 1 (.t 60) false⟩,
      ⟨(some 62), some (57, true), .len false (.t 61)⟩,
      ⟨(some 63), some (57, true), .bin .eql (.t 62) (.c (.int .i64 0))⟩,
      ⟨(some 64), none, .pick (.t 57) (.t 63) (.c (.bool false))⟩,
      ⟨(some 65), none, .mv (.t 64)⟩,
      ⟨(some 66), some (65, true), .mv (.t 5)⟩,
      ⟨(some 67), some (65, true), .bin .eql (.t 66) (.c (.int .i64 0))⟩,
      ⟨(some 68), none, .pick (.t 65) (.t 67) (.c (.bool false))⟩,
      ⟨(some 69), none, .mv (.t 68)⟩,
      ⟨(some 70), some (69, true), .mv (.t 4)⟩,
      ⟨(some 71), some (69, true), .len false (.t 70)⟩,
      ⟨(some 72), some (69, true), .bin .eql (.t 71) (.c (.int .i64 2))⟩,
      ⟨(some 73), none, .pick (.t 69) (.t 72) (.c (.bool false))⟩,
      ⟨(some 74), none, .mv (.t 73)⟩,
      ⟨(some 75), some (74, true), .mv (.t 4)⟩,
      ⟨(some 76), some (74, true), .iad 3 (.t 75) (.c (.int .i64 0))⟩,
      ⟨(some 77), some (74, true), .fad 1 (.t 76)⟩,
      ⟨(some 78), some (74, true), .load true 2 (.t 77) false⟩,
      ⟨(some 79), some (74, true), .build [(.bool false), (.int .i64 0)] []⟩,
      ⟨(some 80), some (74, true), .eqs false [0, 1] (.t 78) (.t 79)⟩,
      ⟨(some 81), none, .pick (.t 74) (.t 80) (.c (.bool false))⟩,
      ⟨(some 82), none, .mv (.t 81)⟩,
      ⟨(some 83), some (82, true), .mv (.t 7)⟩,
      ⟨(some 84), some (82, true), .bin .eql (.t 83) (.c (.int .i64 170))⟩,
      ⟨(some 85), none, .pick (.t 82) (.t 84) (.c (.bool false))⟩,
      ⟨(some 86), none, .mv (.t 85)⟩,
      ⟨(some 87), some (86, true), .mv (.t 9)⟩,
      ⟨(some 88), some (86, true), .bin .eql (.t 87) (.c (.int .i64 91))⟩,
      ⟨(some 89), none, .pick (.t 86) (.t 88) (.c (.bool false))⟩,
      ⟨(some 90), none, .mv (.t 89)⟩,
      ⟨(some 91), some (90, true), .mv (.t 1)⟩,
      ⟨(some 92), some (90, true), .call 0 (.f 19) [(.t 91)]⟩,
      ⟨(some 93), some (90, true), .iad 3 (.t 92) (.c (.int .i64 0))⟩,
      ⟨(some 94), some (90, true), .fad 1 (.t 93)⟩,
      ⟨(some 95), some (90, true), .load true 2 (.t 94) false⟩,
      ⟨(some 96), some (90, true), .call 2 (.f 11) [(.c (.int .i64 2))]⟩,
      ⟨(some 97), some (90, true), .eqs false [0, 1] (.t 95) (.t 96)⟩,
      ⟨(some 98), none, .pick (.t 90) (.t 97) (.c (.bool false))⟩,
      ⟨(some 99), none, .mv (.t 98)⟩,
      ⟨(some 100), some (99, true), .mv (.t 1)⟩,
      ⟨(some 101), some (99, true), .call 2 (.f 17) [(.t 100)]⟩,
      ⟨(some 102), some (99, true), .un .not (.t 101)⟩,
      ⟨(some 103), none, .pick (.t 99) (.t 102) (.c (.bool false))⟩,
      ⟨(some 0), none, .mv (.t 103)⟩] [0])
  .ret))))))),
  [.t 0]⟩

/- spillway/spillwaylaw17.row -/
def an9 : Ann := [[0, 1, 2, 6], [2], [6]]
def fn9 : Vs.Fn := ⟨3,
  (.seq (.rg [⟨(some 6), none, .alloc [.nsl, (.bool false), (.int .i64 0)]⟩] [0, 1, 2, 6])
  (.seq (.rg [⟨(some 7), none, .mv (.t 0)⟩,
      ⟨(some 8), none, .build [(.str ⟨#[]⟩), (.str ⟨#[]⟩)] [(0, 1, (.c (.string ⟨#[97]⟩))), (1, 1, (.t 7))]⟩,
      ⟨(some 9), none, .mv (.t 1)⟩,
      ⟨(some 10), none, .build [(.str ⟨#[]⟩), (.str ⟨#[]⟩)] [(0, 1, (.c (.string ⟨#[98]⟩))), (1, 1, (.t 9))]⟩,
      ⟨(some 11), none, .bslice 2 2 [(.str ⟨#[]⟩), (.str ⟨#[]⟩)] [(0, (.t 8)), (1, (.t 10))]⟩,
      ⟨(some 12), none, .mv (.t 2)⟩,
      ⟨(some 13), none, .call 2 (.f 11) [(.t 12)]⟩,
      ⟨(some 14), none, .build [.nsl, (.bool false), (.int .i64 0)] [(0, 1, (.t 11)), (1, 2, (.t 13))]⟩,
      ⟨none, none, .store 3 (.t 6) (.t 14)⟩] [6])
  .ret)),
  [.cell 6 true 3]⟩

/- spillway/vector.Join -/
def an10 : Ann := [[0, 1, 2, 3, 4, 11], [2], [0, 1, 2, 3, 4, 11, 14, 15], [0, 1, 2, 3, 4, 11, 14, 34], [12, 13], [0, 1, 2, 3, 4, 11, 14, 16], [0, 1, 2, 4, 11, 14, 16, 35], [0, 1, 2, 14, 16], [0, 1, 2, 11, 14, 16, 38], [0, 1, 2, 14, 16], [0], [0, 1, 14, 16, 17], [0, 1, 14, 16, 17, 18], [0], [0, 14, 17, 18, 46, 47, 48], [0, 14, 17, 18, 46, 47, 48], [0, 14, 17, 18, 46, 47, 48, 49], [0, 14, 17, 18, 20, 46, 47, 48], [2], [0, 14, 17, 18, 20, 21, 22, 46, 47, 48], [0, 14, 17, 18, 20, 21, 46, 47, 48, 60], [0, 14, 17, 18, 20, 23, 46, 47, 48], [0, 14, 17, 18, 20, 23, 46, 47, 48, 74], [12, 13], [2], [0, 14, 17, 18, 20, 23, 24, 46, 47, 48], [0, 14, 17, 18, 20, 23, 24, 46, 47, 48, 90], [0, 14, 17, 18, 20, 46, 47, 48, 91], [0, 14, 17, 18, 46, 47, 48], [2], [0, 14, 17, 18, 20, 26, 46, 47, 48], [0, 14, 17, 18, 46, 47, 48], [0, 14, 17, 18, 46, 47, 48], [0], [12, 13]]
def fn10B0 : Cd :=
  (.seq (.rg [⟨(some 49), none, .bin .lss (.t 48) (.t 47)⟩] [0, 14, 17, 18, 46, 47, 48, 49])
  (.seq (.cond (.t 49)
    .skip
    (.exit 1))
  (.seq (.block 2
    (.seq (.rg [⟨(some 50), none, .iad 2 (.t 46) (.t 48)⟩,
        ⟨(some 51), none, .load true 2 (.t 50) false⟩,
        ⟨(some 20), none, .alloc [.nsl, .nsl]⟩,
        ⟨none, none, .store 2 (.t 20) (.t 51)⟩] [0, 14, 17, 18, 20, 46, 47, 48])
    (.seq (.rg [⟨(some 53), none, .mv (.t 17)⟩,
        ⟨(some 54), none, .fad 0 (.t 20)⟩,
        ⟨(some 55), none, .load false 1 (.t 54) false⟩,
        ⟨(some 56), none, .call 2 (.f 30) [(.t 53), (.t 55), (.f 31)]⟩,
        ⟨(some 52), none, .mv (.t 56)⟩,
        ⟨(some 57), none, .ext (.t 52) 0⟩,
        ⟨(some 58), none, .ext (.t 52) 1⟩,
        ⟨(some 21), none, .mv (.t 57)⟩,
        ⟨(some 22), none, .mv (.t 58)⟩] [0, 14, 17, 18, 20, 21, 22, 46, 47, 48])
    (.seq (.seq (.rg [⟨(some 59), none, .mv (.t 22)⟩,
        ⟨(some 60), none, .un .not (.t 59)⟩] [0, 14, 17, 18, 20, 21, 46, 47, 48, 60])
    (.cond (.t 60)
      (.exit 2)
      .skip))
    (.seq (.rg [⟨(some 61), none, .mv (.t 17)⟩,
        ⟨(some 62), none, .mv (.t 21)⟩,
        ⟨(some 63), none, .iad 2 (.t 61) (.t 62)⟩,
        ⟨(some 64), none, .load true 2 (.t 63) false⟩,
        ⟨(some 23), none, .alloc [.nsl, .nsl]⟩,
        ⟨none, none, .store 2 (.t 23) (.t 64)⟩] [0, 14, 17, 18, 20, 23, 46, 47, 48])
    (.seq (.seq (.rg [⟨(some 65), none, .fad 1 (.t 20)⟩,
        ⟨(some 66), none, .load false 1 (.t 65) false⟩,
        ⟨(some 67), none, .len false (.t 66)⟩,
        ⟨(some 68), none, .bin .gtr (.t 67) (.c (.int .i64 1))⟩,
        ⟨(some 69), none, .mv (.t 68)⟩,
        ⟨(some 70), some (69, false), .fad 1 (.t 23)⟩,
        ⟨(some 71), some (69, false), .load false 1 (.t 70) false⟩,
        ⟨(some 72), some (69, false), .len false (.t 71)⟩,
        ⟨(some 73), some (69, false), .bin .gtr (.t 72) (.c (.int .i64 1))⟩,
        ⟨(some 74), none, .pick (.t 69) (.c (.bool true)) (.t 73)⟩] [0, 14, 17, 18, 20, 23, 46, 47, 48, 74])
    (.cond (.t 74)
      (.seq (.rg [⟨(some 12), none, .mv (.c (.slice none 0 0))⟩,
          ⟨(some 13), none, .mv (.c (.int .i64 170))⟩] [12, 13])
      .ret)
      .skip))
    (.seq (.seq (.rg [⟨(some 76), none, .mv (.t 0)⟩,
        ⟨(some 77), none, .fad 1 (.t 20)⟩,
        ⟨(some 78), none, .load false 1 (.t 77) false⟩,
        ⟨(some 79), none, .iad 3 (.t 78) (.c (.int .i64 0))⟩,
        ⟨(some 80), none, .fad 1 (.t 79)⟩,
        ⟨(some 81), none, .load true 2 (.t 80) false⟩,
        ⟨(some 82), none, .fad 1 (.t 23)⟩,
        ⟨(some 83), none, .load false 1 (.t 82) false⟩,
        ⟨(some 84), none, .iad 3 (.t 83) (.c (.int .i64 0))⟩,
        ⟨(some 85), none, .fad 1 (.t 84)⟩,
        ⟨(some 86), none, .load true 2 (.t 85) false⟩,
        ⟨(some 87), none, .call 2 (.f 33) [(.t 76), (.t 81), (.t 86)]⟩,
        ⟨(some 75), none, .mv (.t 87)⟩,
        ⟨(some 88), none, .ext (.t 75) 0⟩,
        ⟨(some 89), none, .ext (.t 75) 1⟩,
        ⟨(some 24), none, .mv (.t 88)⟩,
        ⟨(some 25), none, .mv (.t 89)⟩] [0, 14, 17, 18, 20, 23, 24, 46, 47, 48])
    (.seq (.rg [⟨(some 90), none, .mv (.t 14)⟩] [0, 14, 17, 18, 20, 23, 24, 46, 47, 48, 90])
    (.cond (.t 90)
      (.seq (.seq (.rg [⟨(some 91), none, .mv (.t 24)⟩] [0, 14, 17, 18, 20, 46, 47, 48, 91])
      (.cond (.t 91)
        (.rg [⟨(some 92), none, .mv (.t 18)⟩,
            ⟨(some 93), none, .fad 1 (.t 20)⟩,
            ⟨(some 94), none, .load false 1 (.t 93) false⟩,
            ⟨(some 95), none, .iad 3 (.t 94) (.c (.int .i64 0))⟩,
            ⟨(some 96), none, .load true 3 (.t 95) false⟩,
            ⟨(some 97), none, .bslice 1 3 [.nsl, (.bool false), (.int .i64 0)] [(0, (.t 96))]⟩,
            ⟨(some 98), none, .app 3 40 (.t 92) (.t 97)⟩,
            ⟨(some 18), none, .mv (.t 98)⟩] [0, 14, 17, 18, 46, 47, 48])
        .skip))
      (.exit 2))
      .skip)))
    (.seq (.rg [⟨(some 100), none, .mv (.t 0)⟩,
        ⟨(some 101), none, .fad 1 (.t 20)⟩,
        ⟨(some 102), none, .load false 1 (.t 101) false⟩,
        ⟨(some 103), none, .iad 3 (.t 102) (.c (.int .i64 0))⟩,
        ⟨(some 104), none, .fad 1 (.t 103)⟩,
        ⟨(some 105), none, .load true 2 (.t 104) false⟩,
        ⟨(some 106), none, .fad 1 (.t 23)⟩,
        ⟨(some 107), none, .load false 1 (.t 106) false⟩,
        ⟨(some 108), none, .iad 3 (.t 107) (.c (.int .i64 0))⟩,
        ⟨(some 109), none, .fad 1 (.t 108)⟩,
        ⟨(some 110), none, .load true 2 (.t 109) false⟩,
        ⟨(some 111), none, .call 2 (.f 34) [(.t 100), (.t 105), (.t 110)]⟩,
        ⟨(some 99), none, .mv (.t 111)⟩,
        ⟨(some 112), none, .ext (.t 99) 0⟩,
        ⟨(some 113), none, .ext (.t 99) 1⟩,
        ⟨(some 26), none, .alloc [(.bool false), (.int .i64 0)]⟩,
        ⟨none, none, .store 2 (.t 26) (.t 112)⟩,
        ⟨(some 27), none, .mv (.t 113)⟩] [0, 14, 17, 18, 20, 26, 46, 47, 48])
    (.rg [⟨(some 114), none, .mv (.t 18)⟩,
        ⟨(some 115), none, .fad 0 (.t 20)⟩,
        ⟨(some 116), none, .load false 1 (.t 115) false⟩,
        ⟨(some 117), none, .load true 2 (.t 26) false⟩,
        ⟨(some 118), none, .build [.nsl, (.bool false), (.int .i64 0)] [(0, 1, (.t 116)), (1, 2, (.t 117))]⟩,
        ⟨(some 119), none, .bslice 1 3 [.nsl, (.bool false), (.int .i64 0)] [(0, (.t 118))]⟩,
        ⟨(some 120), none, .app 3 40 (.t 114) (.t 119)⟩,
        ⟨(some 18), none, .mv (.t 120)⟩] [0, 14, 17, 18, 46, 47, 48])))))))))
  (.rg [⟨(some 121), none, .bin .add (.t 48) (.c (.int .i64 1))⟩,
      ⟨(some 48), none, .mv (.t 121)⟩] [0, 14, 17, 18, 46, 47, 48]))))
def fn10L0 : Cd := .loop [0, 14, 17, 18, 46, 47, 48] fn10B0
def fn10 : Vs.Fn := ⟨6,
  (.seq (.rg [⟨(some 11), none, .box 1 (.t 5)⟩,
      ⟨(some 12), none, .mv (.c (.slice none 0 0))⟩,
      ⟨(some 13), none, .mv (.c (.int .i64 0))⟩] [0, 1, 2, 3, 4, 11])
  (.seq (.rg [⟨(some 29), none, .mv (.t 0)⟩,
      ⟨(some 30), none, .call 2 (.f 23) [(.t 29)]⟩,
      ⟨(some 28), none, .mv (.t 30)⟩,
      ⟨(some 31), none, .ext (.t 28) 0⟩,
      ⟨(some 32), none, .ext (.t 28) 1⟩,
      ⟨(some 14), none, .mv (.t 31)⟩,
      ⟨(some 15), none, .mv (.t 32)⟩] [0, 1, 2, 3, 4, 11, 14, 15])
  (.seq (.seq (.rg [⟨(some 33), none, .mv (.t 15)⟩,
      ⟨(some 34), none, .un .not (.t 33)⟩] [0, 1, 2, 3, 4, 11, 14, 34])
  (.cond (.t 34)
    (.seq (.rg [⟨(some 12), none, .mv (.c (.slice none 0 0))⟩,
        ⟨(some 13), none, .mv (.c (.int .i64 91))⟩] [12, 13])
    .ret)
    .skip))
  (.seq (.rg [⟨(some 16), none, .mv (.f 24)⟩] [0, 1, 2, 3, 4, 11, 14, 16])
  (.seq (.block 0
    (.seq (.rg [⟨(some 36), none, .mv (.t 3)⟩,
        ⟨(some 35), none, .mv (.t 36)⟩] [0, 1, 2, 4, 11, 14, 16, 35])
    (.cond (.t 35)
      (.rg [⟨(some 37), none, .mkf 26 [(.t 11)]⟩,
          ⟨(some 16), none, .mv (.t 37)⟩] [0, 1, 2, 14, 16])
      (.seq (.rg [⟨(some 39), none, .mv (.t 4)⟩,
          ⟨(some 38), none, .mv (.t 39)⟩] [0, 1, 2, 11, 14, 16, 38])
      (.cond (.t 38)
        (.rg [⟨(some 40), none, .mkf 28 [(.t 11)]⟩,
            ⟨(some 16), none, .mv (.t 40)⟩] [0, 1, 2, 14, 16])
        .skip)))))
  (.seq (.rg [⟨(some 41), none, .mv (.t 2)⟩,
      ⟨(some 42), none, .mv (.t 16)⟩,
      ⟨(some 43), none, .call 0 (.f 29) [(.t 41), (.t 42)]⟩,
      ⟨(some 17), none, .mv (.t 43)⟩] [0, 1, 14, 16, 17])
  (.seq (.rg [⟨(some 18), none, .mv (.c (.slice none 0 0))⟩] [0, 1, 14, 16, 17, 18])
  (.seq (.seq (.rg [⟨(some 44), none, .mv (.t 1)⟩,
      ⟨(some 45), none, .mv (.t 16)⟩,
      ⟨(some 46), none, .call 0 (.f 29) [(.t 44), (.t 45)]⟩,
      ⟨(some 47), none, .len false (.t 46)⟩,
      ⟨(some 48), none, .mv (.c (.int .i64 0))⟩] [0, 14, 17, 18, 46, 47, 48])
  (.block 1
    fn10L0))
  (.seq (.rg [⟨(some 122), none, .mv (.t 18)⟩,
      ⟨(some 123), none, .call 0 (.f 35) [(.t 122)]⟩,
      ⟨(some 124), none, .ext (.t 123) 0⟩,
      ⟨(some 125), none, .ext (.t 123) 1⟩,
      ⟨(some 12), none, .mv (.t 124)⟩,
      ⟨(some 13), none, .mv (.t 125)⟩] [12, 13])
  .ret))))))))),
  [.t 12, .t 13]⟩

/- spillway/fix.Of -/
def an11 : Ann := [[0, 2], [2], [2], [2]]
def fn11 : Vs.Fn := ⟨1,
  (.seq (.rg [⟨(some 2), none, .alloc [(.bool false), (.int .i64 0)]⟩] [0, 2])
  (.seq (.rg [⟨(some 3), none, .mv (.t 0)⟩,
      ⟨(some 4), none, .bin .lss (.t 3) (.c (.int .i64 0))⟩,
      ⟨(some 5), none, .mv (.t 0)⟩,
      ⟨(some 6), none, .call 2 (.f 37) [(.t 5)]⟩,
      ⟨(some 7), none, .call 2 (.f 36) [(.t 4), (.t 6), (.c (.int .u64 1000000)), (.c (.int .u64 1))]⟩,
      ⟨none, none, .store 2 (.t 2) (.t 7)⟩] [2])
  .ret)),
  [.cell 2 true 2]⟩

/- spillway/vector.Agg -/
def an14 : Ann := [[0, 1, 2, 3, 9], [2], [0, 1, 2, 3, 9, 19], [10, 11], [0, 1, 2, 3, 9, 12], [0, 1, 3, 9, 12, 20], [0, 1, 12], [0, 1, 9, 12, 23], [0, 1, 12], [0, 1, 12, 13], [0], [0, 13, 28, 29, 30], [0, 13, 28, 29, 30], [0, 13, 28, 29, 30, 31], [0, 13, 15, 28, 29, 30], [0, 0, 0, 15], [0], [2], [0, 13, 28, 29, 30], [0, 13, 28, 29, 30], [10, 11]]
def fn14B0 : Cd :=
  (.seq (.rg [⟨(some 31), none, .bin .lss (.t 30) (.t 29)⟩] [0, 13, 28, 29, 30, 31])
  (.seq (.cond (.t 31)
    .skip
    (.exit 1))
  (.seq (.block 2
    (.seq (.rg [⟨(some 32), none, .iad 2 (.t 28) (.t 30)⟩,
        ⟨(some 33), none, .load true 2 (.t 32) false⟩,
        ⟨(some 15), none, .alloc [.nsl, .nsl]⟩,
        ⟨none, none, .store 2 (.t 15) (.t 33)⟩] [0, 13, 15, 28, 29, 30])
    (.rgr [15] [⟨(some 34), none, .mv (.t 13)⟩,
        ⟨(some 35), none, .fad 0 (.t 15)⟩,
        ⟨(some 36), none, .ldr false 1 (.t 35) (.t 15)⟩,
        ⟨(some 37), none, .mv (.t 0)⟩,
        ⟨(some 38), none, .fad 1 (.t 15)⟩,
        ⟨(some 39), none, .load false 1 (.t 38) false⟩,
        ⟨(some 40), none, .call 0 (.f 43) [(.t 39)]⟩,
        ⟨(some 41), none, .call 2 (.f 42) [(.t 37), (.t 40)]⟩,
        ⟨(some 42), none, .build [.nsl, (.bool false), (.int .i64 0)] [(0, 1, (.t 36)), (1, 2, (.t 41))]⟩,
        ⟨(some 43), none, .bslice 1 3 [.nsl, (.bool false), (.int .i64 0)] [(0, (.t 42))]⟩,
        ⟨(some 44), none, .app 3 40 (.t 34) (.t 43)⟩,
        ⟨(some 13), none, .mv (.t 44)⟩] [0, 13, 28, 29, 30])))
  (.rg [⟨(some 45), none, .bin .add (.t 30) (.c (.int .i64 1))⟩,
      ⟨(some 30), none, .mv (.t 45)⟩] [0, 13, 28, 29, 30]))))
def fn14L0 : Cd := .loop [0, 13, 28, 29, 30] fn14B0
def fn14 : Vs.Fn := ⟨5,
  (.seq (.rg [⟨(some 9), none, .box 1 (.t 4)⟩,
      ⟨(some 10), none, .mv (.c (.slice none 0 0))⟩,
      ⟨(some 11), none, .mv (.c (.int .i64 0))⟩] [0, 1, 2, 3, 9])
  (.seq (.seq (.rg [⟨(some 16), none, .bslice 5 1 [(.str ⟨#[]⟩)] [(0, (.c (.string ⟨#[115, 117, 109]⟩))), (1, (.c (.string ⟨#[109, 105, 110]⟩))), (2, (.c (.string ⟨#[109, 97, 120]⟩))), (3, (.c (.string ⟨#[99, 111, 117, 110, 116]⟩))), (4, (.c (.string ⟨#[97, 118, 103]⟩)))]⟩,
      ⟨(some 17), none, .mv (.t 0)⟩,
      ⟨(some 18), none, .call 2 (.f 38) [(.t 16), (.t 17)]⟩,
      ⟨(some 19), none, .un .not (.t 18)⟩] [0, 1, 2, 3, 9, 19])
  (.cond (.t 19)
    (.seq (.rg [⟨(some 10), none, .mv (.c (.slice none 0 0))⟩,
        ⟨(some 11), none, .mv (.c (.int .i64 91))⟩] [10, 11])
    .ret)
    .skip))
  (.seq (.rg [⟨(some 12), none, .mv (.f 39)⟩] [0, 1, 2, 3, 9, 12])
  (.seq (.block 0
    (.seq (.rg [⟨(some 21), none, .mv (.t 2)⟩,
        ⟨(some 20), none, .mv (.t 21)⟩] [0, 1, 3, 9, 12, 20])
    (.cond (.t 20)
      (.rg [⟨(some 22), none, .mkf 40 [(.t 9)]⟩,
          ⟨(some 12), none, .mv (.t 22)⟩] [0, 1, 12])
      (.seq (.rg [⟨(some 24), none, .mv (.t 3)⟩,
          ⟨(some 23), none, .mv (.t 24)⟩] [0, 1, 9, 12, 23])
      (.cond (.t 23)
        (.rg [⟨(some 25), none, .mkf 41 [(.t 9)]⟩,
            ⟨(some 12), none, .mv (.t 25)⟩] [0, 1, 12])
        .skip)))))
  (.seq (.rg [⟨(some 13), none, .mv (.c (.slice none 0 0))⟩] [0, 1, 12, 13])
  (.seq (.seq (.rg [⟨(some 26), none, .mv (.t 1)⟩,
      ⟨(some 27), none, .mv (.t 12)⟩,
      ⟨(some 28), none, .call 0 (.f 29) [(.t 26), (.t 27)]⟩,
      ⟨(some 29), none, .len false (.t 28)⟩,
      ⟨(some 30), none, .mv (.c (.int .i64 0))⟩] [0, 13, 28, 29, 30])
  (.block 1
    fn14L0))
  (.seq (.rg [⟨(some 46), none, .mv (.t 13)⟩,
      ⟨(some 10), none, .mv (.t 46)⟩,
      ⟨(some 11), none, .mv (.c (.int .i64 0))⟩] [10, 11])
  .ret))))))),
  [.t 10, .t 11]⟩

/- spillway/fix.Add -/
def an15 : Ann := [[2, 3, 4], [2], [4]]
def fn15 : Vs.Fn := ⟨2,
  (.seq (.rg [⟨(some 2), none, .box 2 (.t 0)⟩,
      ⟨(some 3), none, .box 2 (.t 1)⟩,
      ⟨(some 4), none, .alloc [(.bool false), (.int .i64 0)]⟩] [2, 3, 4])
  (.seq (.rg [⟨(some 5), none, .load true 2 (.t 2) false⟩,
      ⟨(some 6), none, .load true 2 (.t 3) false⟩,
      ⟨(some 7), none, .bslice 2 2 [(.bool false), (.int .i64 0)] [(0, (.t 5)), (1, (.t 6))]⟩,
      ⟨(some 8), none, .call 2 (.f 44) [(.t 7)]⟩,
      ⟨none, none, .store 2 (.t 4) (.t 8)⟩] [4])
  .ret)),
  [.cell 4 true 2]⟩

/- spillway/fix.Cmp -/
def an16 : Ann := [[2, 3], [2], [2], [2, 3, 5], [4], [2], [2, 3, 12], [4], [2], [2, 3, 15], [4], [2], [4]]
def fn16 : Vs.Fn := ⟨2,
  (.seq (.rg [⟨(some 2), none, .box 2 (.t 0)⟩,
      ⟨(some 3), none, .box 2 (.t 1)⟩,
      ⟨(some 4), none, .mv (.c (.int .i64 0))⟩] [2, 3])
  (.seq (.block 0
    (.seq (.rg [⟨(some 6), none, .load true 2 (.t 2) false⟩,
        ⟨(some 7), none, .call 2 (.f 45) [(.t 6)]⟩,
        ⟨(some 8), none, .mv (.t 7)⟩,
        ⟨(some 9), some (8, true), .load true 2 (.t 3) false⟩,
        ⟨(some 10), some (8, true), .call 2 (.f 45) [(.t 9)]⟩,
        ⟨(some 11), none, .pick (.t 8) (.t 10) (.c (.bool false))⟩,
        ⟨(some 5), none, .mv (.t 11)⟩] [2, 3, 5])
    (.cond (.t 5)
      (.seq (.rg [⟨(some 4), none, .mv (.c (.int .i64 0))⟩] [4])
      .ret)
      (.seq (.rg [⟨(some 13), none, .load true 2 (.t 2) false⟩,
          ⟨(some 14), none, .call 2 (.f 45) [(.t 13)]⟩,
          ⟨(some 12), none, .mv (.t 14)⟩] [2, 3, 12])
      (.cond (.t 12)
        (.seq (.rg [⟨(some 4), none, .mv (.c (.int .i64 1))⟩] [4])
        .ret)
        (.seq (.rg [⟨(some 16), none, .load true 2 (.t 3) false⟩,
            ⟨(some 17), none, .call 2 (.f 45) [(.t 16)]⟩,
            ⟨(some 15), none, .mv (.t 17)⟩] [2, 3, 15])
        (.cond (.t 15)
          (.seq (.rg [⟨(some 4), none, .mv (.c (.int .i64 (-1)))⟩] [4])
          .ret)
          .skip)))))))
  (.seq (.rg [⟨(some 18), none, .fad 1 (.t 2)⟩,
      ⟨(some 19), none, .load false 1 (.t 18) false⟩,
      ⟨(some 20), none, .fad 1 (.t 3)⟩,
      ⟨(some 21), none, .load false 1 (.t 20) false⟩,
      ⟨(some 22), none, .call 2 (.f 46) [(.t 19), (.t 21)]⟩,
      ⟨(some 4), none, .mv (.t 22)⟩] [4])
  .ret))),
  [.t 4]⟩

/- spillway/vector.Dup -/
def an17 : Ann := [[0], [0], [3], [3, 4], [3, 4], [3, 4, 10], [2], [3, 4, 25], [2], [3, 4], [2]]
def fn17B0 : Cd :=
  (.seq (.seq (.rg [⟨(some 7), none, .mv (.t 4)⟩,
      ⟨(some 8), none, .mv (.t 3)⟩,
      ⟨(some 9), none, .len false (.t 8)⟩,
      ⟨(some 10), none, .bin .lss (.t 7) (.t 9)⟩] [3, 4, 10])
  (.cond (.t 10)
    .skip
    (.exit 0)))
  (.seq (.block 1
    (.seq (.rg [⟨(some 13), none, .mv (.t 3)⟩,
        ⟨(some 14), none, .mv (.t 4)⟩,
        ⟨(some 15), none, .bin .sub (.t 14) (.c (.int .i64 1))⟩,
        ⟨(some 16), none, .iad 3 (.t 13) (.t 15)⟩,
        ⟨(some 17), none, .fad 0 (.t 16)⟩,
        ⟨(some 18), none, .load false 1 (.t 17) false⟩,
        ⟨(some 19), none, .mv (.t 3)⟩,
        ⟨(some 20), none, .mv (.t 4)⟩,
        ⟨(some 21), none, .iad 3 (.t 19) (.t 20)⟩,
        ⟨(some 22), none, .fad 0 (.t 21)⟩,
        ⟨(some 23), none, .load false 1 (.t 22) false⟩,
        ⟨(some 24), none, .call 2 (.f 32) [(.t 18), (.t 23)]⟩,
        ⟨(some 25), none, .bin .eql (.t 24) (.c (.int .i64 0))⟩] [3, 4, 25])
    (.cond (.t 25)
      (.seq (.rg [⟨(some 2), none, .mv (.c (.bool true))⟩] [2])
      .ret)
      .skip)))
  (.rg [⟨(some 11), none, .mv (.t 4)⟩,
      ⟨(some 12), none, .bin .add (.t 11) (.c (.int .i64 1))⟩,
      ⟨(some 4), none, .mv (.t 12)⟩] [3, 4])))
def fn17L0 : Cd := .loop [3, 4] fn17B0
def fn17 : Vs.Fn := ⟨1,
  (.seq (.rg [⟨(some 2), none, .mv (.c (.bool false))⟩] [0])
  (.seq (.rg [⟨(some 5), none, .mv (.t 0)⟩,
      ⟨(some 6), none, .call 0 (.f 19) [(.t 5)]⟩,
      ⟨(some 3), none, .mv (.t 6)⟩] [3])
  (.seq (.seq (.rg [⟨(some 4), none, .mv (.c (.int .i64 1))⟩] [3, 4])
  (.block 0
    fn17L0))
  (.seq (.rg [⟨(some 2), none, .mv (.c (.bool false))⟩] [2])
  .ret)))),
  [.t 2]⟩

/- spillway/vector.Sort -/
def an19 : Ann := [[0], [0], [3], [0], [3], [2]]
def fn19 : Vs.Fn := ⟨1,
  (.seq (.rg [⟨(some 2), none, .mv (.c (.slice none 0 0))⟩] [0])
  (.seq (.rg [⟨(some 4), none, .mv (.t 0)⟩,
      ⟨(some 5), none, .call 0 (.f 50) [(.t 4)]⟩,
      ⟨(some 3), none, .mv (.t 5)⟩] [3])
  (.seq (.rg [⟨(some 6), none, .mv (.t 3)⟩,
      ⟨(some 7), none, .call 0 (.f 51) [(.t 6), (.f 52)]⟩] [3])
  (.seq (.rg [⟨(some 8), none, .mv (.t 3)⟩,
      ⟨(some 2), none, .mv (.t 8)⟩] [2])
  .ret)))),
  [.t 2]⟩

/- spillway/vector.Bare -/
def an20 : Ann := [[0], [0], [2, 3]]
def fn20 : Vs.Fn := ⟨1,
  (.seq (.rg [⟨(some 2), none, .mv (.c (.slice none 0 0))⟩,
      ⟨(some 3), none, .mv (.c (.int .i64 0))⟩] [0])
  (.seq (.rg [⟨(some 4), none, .mv (.t 0)⟩,
      ⟨(some 5), none, .call 0 (.f 53) [(.t 4), (.f 54)]⟩,
      ⟨(some 6), none, .ext (.t 5) 0⟩,
      ⟨(some 7), none, .ext (.t 5) 1⟩,
      ⟨(some 2), none, .mv (.t 6)⟩,
      ⟨(some 3), none, .mv (.t 7)⟩] [2, 3])
  .ret)),
  [.t 2, .t 3]⟩

/- spillway/vector.Neg -/
def an21 : Ann := [[0], [0], [2, 3]]
def fn21 : Vs.Fn := ⟨1,
  (.seq (.rg [⟨(some 2), none, .mv (.c (.slice none 0 0))⟩,
      ⟨(some 3), none, .mv (.c (.int .i64 0))⟩] [0])
  (.seq (.rg [⟨(some 4), none, .mv (.t 0)⟩,
      ⟨(some 5), none, .call 0 (.f 53) [(.t 4), (.f 55)]⟩,
      ⟨(some 6), none, .ext (.t 5) 0⟩,
      ⟨(some 7), none, .ext (.t 5) 1⟩,
      ⟨(some 2), none, .mv (.t 6)⟩,
      ⟨(some 3), none, .mv (.t 7)⟩] [2, 3])
  .ret)),
  [.t 2, .t 3]⟩

/- spillway/vector.With -/
def an22 : Ann := [[1, 4, 6, 7], [2], [1, 4, 6, 7, 10, 11], [1, 4, 6, 7, 10, 19], [8, 9], [1, 4, 10, 12], [1, 4, 12, 21], [0], [0], [0], [8, 9], [0], [8, 9]]
def fn22 : Vs.Fn := ⟨4,
  (.seq (.rg [⟨(some 4), none, .box 1 (.t 0)⟩,
      ⟨(some 6), none, .box 2 (.t 2)⟩,
      ⟨(some 7), none, .box 1 (.t 3)⟩,
      ⟨(some 8), none, .mv (.c (.slice none 0 0))⟩,
      ⟨(some 9), none, .mv (.c (.int .i64 0))⟩] [1, 4, 6, 7])
  (.seq (.rg [⟨(some 14), none, .load false 1 (.t 4) false⟩,
      ⟨(some 15), none, .call 2 (.f 23) [(.t 14)]⟩,
      ⟨(some 13), none, .mv (.t 15)⟩,
      ⟨(some 16), none, .ext (.t 13) 0⟩,
      ⟨(some 17), none, .ext (.t 13) 1⟩,
      ⟨(some 10), none, .mv (.t 16)⟩,
      ⟨(some 11), none, .mv (.t 17)⟩] [1, 4, 6, 7, 10, 11])
  (.seq (.seq (.rg [⟨(some 18), none, .mv (.t 11)⟩,
      ⟨(some 19), none, .un .not (.t 18)⟩] [1, 4, 6, 7, 10, 19])
  (.cond (.t 19)
    (.seq (.rg [⟨(some 8), none, .mv (.c (.slice none 0 0))⟩,
        ⟨(some 9), none, .mv (.c (.int .i64 91))⟩] [8, 9])
    .ret)
    .skip))
  (.seq (.rg [⟨(some 20), none, .mkf 56 [(.t 7), (.t 6)]⟩,
      ⟨(some 12), none, .alloc [.nfn]⟩,
      ⟨none, none, .store 1 (.t 12) (.t 20)⟩] [1, 4, 10, 12])
  (.seq (.seq (.rg [⟨(some 21), none, .mv (.t 10)⟩] [1, 4, 12, 21])
  (.cond (.t 21)
    (.seq (.rg [⟨(some 22), none, .mv (.t 1)⟩,
        ⟨(some 23), none, .call 0 (.f 50) [(.t 22)]⟩,
        ⟨(some 24), none, .mkf 58 [(.t 12), (.t 4)]⟩,
        ⟨(some 25), none, .call 0 (.f 57) [(.t 23), (.t 24)]⟩,
        ⟨(some 26), none, .call 0 (.f 19) [(.t 25)]⟩,
        ⟨(some 8), none, .mv (.t 26)⟩,
        ⟨(some 9), none, .mv (.c (.int .i64 0))⟩] [8, 9])
    .ret)
    .skip))
  (.seq (.rg [⟨(some 27), none, .mv (.t 1)⟩,
      ⟨(some 28), none, .mkf 59 [(.t 12), (.t 4)]⟩,
      ⟨(some 29), none, .call 0 (.f 53) [(.t 27), (.t 28)]⟩,
      ⟨(some 30), none, .ext (.t 29) 0⟩,
      ⟨(some 31), none, .ext (.t 29) 1⟩,
      ⟨(some 8), none, .mv (.t 30)⟩,
      ⟨(some 9), none, .mv (.t 31)⟩] [8, 9])
  .ret)))))),
  [.t 8, .t 9]⟩

/- spillway/vector.known -/
def an23 : Ann := [[0], [2], [0, 5], [2], [2, 5], [2, 3]]
def fn23 : Vs.Fn := ⟨1,
  (.seq (.rg [⟨(some 2), none, .mv (.c (.bool false))⟩,
      ⟨(some 3), none, .mv (.c (.bool false))⟩] [0])
  (.seq (.rg [⟨(some 7), none, .mv (.t 0)⟩,
      ⟨(some 8), none, .build [(.bool false), (.int .i64 0)] []⟩,
      ⟨(some 9), none, .build [(.bool false), (.int .i64 0)] []⟩,
      ⟨(some 10), none, .call 2 (.f 34) [(.t 7), (.t 8), (.t 9)]⟩,
      ⟨(some 6), none, .mv (.t 10)⟩,
      ⟨(some 11), none, .ext (.t 6) 0⟩,
      ⟨(some 12), none, .ext (.t 6) 1⟩,
      ⟨(some 4), none, .alloc [(.bool false), (.int .i64 0)]⟩,
      ⟨none, none, .store 2 (.t 4) (.t 11)⟩,
      ⟨(some 5), none, .mv (.t 12)⟩] [0, 5])
  (.seq (.rg [⟨(some 14), none, .mv (.t 0)⟩,
      ⟨(some 15), none, .build [(.bool false), (.int .i64 0)] []⟩,
      ⟨(some 16), none, .build [(.bool false), (.int .i64 0)] []⟩,
      ⟨(some 17), none, .call 2 (.f 33) [(.t 14), (.t 15), (.t 16)]⟩,
      ⟨(some 13), none, .mv (.t 17)⟩,
      ⟨(some 18), none, .ext (.t 13) 0⟩,
      ⟨(some 19), none, .ext (.t 13) 1⟩,
      ⟨(some 2), none, .mv (.t 19)⟩] [2, 5])
  (.seq (.rg [⟨(some 20), none, .mv (.t 2)⟩,
      ⟨(some 21), none, .mv (.t 5)⟩,
      ⟨(some 22), none, .mv (.t 21)⟩,
      ⟨(some 23), some (22, false), .mv (.t 2)⟩,
      ⟨(some 24), none, .pick (.t 22) (.c (.bool true)) (.t 23)⟩,
      ⟨(some 2), none, .mv (.t 20)⟩,
      ⟨(some 3), none, .mv (.t 24)⟩] [2, 3])
  .ret)))),
  [.t 2, .t 3]⟩

/- spillway/vector.Join$1 -/
def an24 : Ann := [[0], [1], [2]]
def fn24 : Vs.Fn := ⟨1,
  (.seq (.rg [⟨(some 2), none, .mv (.c (.slice none 0 0))⟩] [0])
  (.seq (.rg [⟨(some 3), none, .mv (.t 0)⟩,
      ⟨(some 4), none, .call 1 (.f 25) [(.t 3), (.c (.slice none 0 0))]⟩,
      ⟨(some 2), none, .mv (.t 4)⟩] [2])
  .ret)),
  [.t 2]⟩

/- spillway/label.Without -/
def an25 : Ann := [[0, 3], [0], [4]]
def fn25 : Vs.Fn := ⟨2,
  (.seq (.rg [⟨(some 3), none, .box 1 (.t 1)⟩,
      ⟨(some 4), none, .mv (.c (.slice none 0 0))⟩] [0, 3])
  (.seq (.rg [⟨(some 5), none, .mv (.t 0)⟩,
      ⟨(some 6), none, .mkf 61 [(.t 3)]⟩,
      ⟨(some 7), none, .call 0 (.f 60) [(.t 5), (.t 6)]⟩,
      ⟨(some 4), none, .mv (.t 7)⟩] [4])
  .ret)),
  [.t 4]⟩

/- spillway/vector.Join$2 -/
def an26 : Ann := [[0, 1], [1], [3]]
def fn26 : Vs.Fn := ⟨2,
  (.seq (.rg [⟨(some 3), none, .mv (.c (.slice none 0 0))⟩] [0, 1])
  (.seq (.rg [⟨(some 4), none, .mv (.t 0)⟩,
      ⟨(some 5), none, .load false 1 (.t 1) false⟩,
      ⟨(some 6), none, .call 1 (.f 27) [(.t 4), (.t 5)]⟩,
      ⟨(some 3), none, .mv (.t 6)⟩] [3])
  .ret)),
  [.t 3]⟩

/- spillway/label.Keep -/
def an27 : Ann := [[0, 3], [0], [4]]
def fn27 : Vs.Fn := ⟨2,
  (.seq (.rg [⟨(some 3), none, .box 1 (.t 1)⟩,
      ⟨(some 4), none, .mv (.c (.slice none 0 0))⟩] [0, 3])
  (.seq (.rg [⟨(some 5), none, .mv (.t 0)⟩,
      ⟨(some 6), none, .mkf 62 [(.t 3)]⟩,
      ⟨(some 7), none, .call 0 (.f 60) [(.t 5), (.t 6)]⟩,
      ⟨(some 4), none, .mv (.t 7)⟩] [4])
  .ret)),
  [.t 4]⟩

/- spillway/vector.Join$3 -/
def an28 : Ann := [[0, 1], [1], [3]]
def fn28 : Vs.Fn := ⟨2,
  (.seq (.rg [⟨(some 3), none, .mv (.c (.slice none 0 0))⟩] [0, 1])
  (.seq (.rg [⟨(some 4), none, .mv (.t 0)⟩,
      ⟨(some 5), none, .load false 1 (.t 1) false⟩,
      ⟨(some 6), none, .call 1 (.f 25) [(.t 4), (.t 5)]⟩,
      ⟨(some 3), none, .mv (.t 6)⟩] [3])
  .ret)),
  [.t 3]⟩

/- spillway/vector.keys -/
def an29 : Ann := [[0, 1], [0, 1, 5], [1, 5, 11, 12, 13], [1, 5, 11, 12, 13], [1, 5, 11, 12, 13, 14], [1, 5, 7, 11, 12, 13], [2], [1, 5, 7, 8, 11, 12, 13], [2], [1, 5, 7, 8, 9, 10, 11, 12, 13], [1, 5, 7, 8, 9, 11, 12, 13, 28], [0], [1, 5, 7, 9, 11, 12, 13], [1, 5, 11, 12, 13], [1, 5, 11, 12, 13], [4]]
def fn29B0 : Cd :=
  (.seq (.rg [⟨(some 14), none, .bin .lss (.t 13) (.t 12)⟩] [1, 5, 11, 12, 13, 14])
  (.seq (.cond (.t 14)
    .skip
    (.exit 0))
  (.seq (.block 1
    (.seq (.rg [⟨(some 15), none, .iad 3 (.t 11) (.t 13)⟩,
        ⟨(some 16), none, .load true 3 (.t 15) false⟩,
        ⟨(some 7), none, .alloc [.nsl, (.bool false), (.int .i64 0)]⟩,
        ⟨none, none, .store 3 (.t 7) (.t 16)⟩] [1, 5, 7, 11, 12, 13])
    (.seq (.rg [⟨(some 17), none, .mv (.t 1)⟩,
        ⟨(some 18), none, .fad 0 (.t 7)⟩,
        ⟨(some 19), none, .load false 1 (.t 18) false⟩,
        ⟨(some 20), none, .call 2 (.t 17) [(.t 19)]⟩,
        ⟨(some 8), none, .mv (.t 20)⟩] [1, 5, 7, 8, 11, 12, 13])
    (.seq (.rg [⟨(some 22), none, .mv (.t 5)⟩,
        ⟨(some 23), none, .mv (.t 8)⟩,
        ⟨(some 24), none, .call 2 (.f 30) [(.t 22), (.t 23), (.f 63)]⟩,
        ⟨(some 21), none, .mv (.t 24)⟩,
        ⟨(some 25), none, .ext (.t 21) 0⟩,
        ⟨(some 26), none, .ext (.t 21) 1⟩,
        ⟨(some 9), none, .mv (.t 25)⟩,
        ⟨(some 10), none, .mv (.t 26)⟩] [1, 5, 7, 8, 9, 10, 11, 12, 13])
    (.seq (.seq (.rg [⟨(some 27), none, .mv (.t 10)⟩,
        ⟨(some 28), none, .un .not (.t 27)⟩] [1, 5, 7, 8, 9, 11, 12, 13, 28])
    (.cond (.t 28)
      (.rg [⟨(some 29), none, .mv (.t 5)⟩,
          ⟨(some 30), none, .mv (.t 9)⟩,
          ⟨(some 31), none, .mv (.t 8)⟩,
          ⟨(some 32), none, .build [.nsl, .nsl] [(0, 1, (.t 31))]⟩,
          ⟨(some 33), none, .bslice 1 2 [.nsl, .nsl] [(0, (.t 32))]⟩,
          ⟨(some 34), none, .call 0 (.f 64) [(.t 29), (.t 30), (.t 33)]⟩,
          ⟨(some 5), none, .mv (.t 34)⟩] [1, 5, 7, 9, 11, 12, 13])
      .skip))
    (.rg [⟨(some 35), none, .mv (.t 5)⟩,
        ⟨(some 36), none, .mv (.t 9)⟩,
        ⟨(some 37), none, .mv (.t 5)⟩,
        ⟨(some 38), none, .mv (.t 9)⟩,
        ⟨(some 39), none, .iad 2 (.t 37) (.t 38)⟩,
        ⟨(some 40), none, .fad 1 (.t 39)⟩,
        ⟨(some 41), none, .load false 1 (.t 40) false⟩,
        ⟨(some 42), none, .load true 3 (.t 7) false⟩,
        ⟨(some 43), none, .bslice 1 3 [.nsl, (.bool false), (.int .i64 0)] [(0, (.t 42))]⟩,
        ⟨(some 44), none, .app 3 40 (.t 41) (.t 43)⟩,
        ⟨(some 45), none, .iad 2 (.t 35) (.t 36)⟩,
        ⟨(some 46), none, .fad 1 (.t 45)⟩,
        ⟨none, none, .store 1 (.t 46) (.t 44)⟩] [1, 5, 11, 12, 13]))))))
  (.rg [⟨(some 47), none, .bin .add (.t 13) (.c (.int .i64 1))⟩,
      ⟨(some 13), none, .mv (.t 47)⟩] [1, 5, 11, 12, 13]))))
def fn29L0 : Cd := .loop [1, 5, 11, 12, 13] fn29B0
def fn29 : Vs.Fn := ⟨2,
  (.seq (.rg [⟨(some 4), none, .mv (.c (.slice none 0 0))⟩] [0, 1])
  (.seq (.rg [⟨(some 5), none, .mv (.c (.slice none 0 0))⟩] [0, 1, 5])
  (.seq (.seq (.rg [⟨(some 11), none, .mv (.t 0)⟩,
      ⟨(some 12), none, .len false (.t 11)⟩,
      ⟨(some 13), none, .mv (.c (.int .i64 0))⟩] [1, 5, 11, 12, 13])
  (.block 0
    fn29L0))
  (.seq (.rg [⟨(some 48), none, .mv (.t 5)⟩,
      ⟨(some 4), none, .mv (.t 48)⟩] [4])
  .ret)))),
  [.t 4]⟩

/- slices.BinarySearchFunc[[]spillway/vector.keyed,spillway/vector.keyed,[]spillway/api.Pair] -/
def an30 : Ann := [[0, 1, 2], [0, 1, 2, 8], [0, 1, 2, 8, 9, 10], [0, 1, 2, 8, 9, 10], [0, 1, 2, 8, 9, 10, 17], [0, 1, 2, 8, 9, 10, 11], [2], [0, 1, 2, 8, 9, 10, 11, 31], [0, 1, 2, 8, 9, 10], [0, 1, 2, 8, 9, 10], [2], [6, 7]]
def fn30B0 : Cd :=
  (.seq (.seq (.rg [⟨(some 15), none, .mv (.t 9)⟩,
      ⟨(some 16), none, .mv (.t 10)⟩,
      ⟨(some 17), none, .bin .lss (.t 15) (.t 16)⟩] [0, 1, 2, 8, 9, 10, 17])
  (.cond (.t 17)
    .skip
    (.exit 0)))
  (.block 1
    (.seq (.rg [⟨(some 18), none, .mv (.t 9)⟩,
        ⟨(some 19), none, .mv (.t 10)⟩,
        ⟨(some 20), none, .bin .add (.t 18) (.t 19)⟩,
        ⟨(some 21), none, .cvi .u64 (.t 20)⟩,
        ⟨(some 22), none, .bin .shr (.t 21) (.c (.int .u64 1))⟩,
        ⟨(some 23), none, .cvi .i64 (.t 22)⟩,
        ⟨(some 11), none, .mv (.t 23)⟩] [0, 1, 2, 8, 9, 10, 11])
    (.seq (.rg [⟨(some 24), none, .mv (.t 2)⟩,
        ⟨(some 25), none, .mv (.t 0)⟩,
        ⟨(some 26), none, .mv (.t 11)⟩,
        ⟨(some 27), none, .iad 2 (.t 25) (.t 26)⟩,
        ⟨(some 28), none, .load true 2 (.t 27) false⟩,
        ⟨(some 29), none, .mv (.t 1)⟩,
        ⟨(some 30), none, .call 2 (.t 24) [(.t 28), (.t 29)]⟩,
        ⟨(some 31), none, .bin .lss (.t 30) (.c (.int .i64 0))⟩] [0, 1, 2, 8, 9, 10, 11, 31])
    (.cond (.t 31)
      (.rg [⟨(some 32), none, .mv (.t 11)⟩,
          ⟨(some 33), none, .bin .add (.t 32) (.c (.int .i64 1))⟩,
          ⟨(some 9), none, .mv (.t 33)⟩] [0, 1, 2, 8, 9, 10])
      (.rg [⟨(some 34), none, .mv (.t 11)⟩,
          ⟨(some 10), none, .mv (.t 34)⟩] [0, 1, 2, 8, 9, 10]))))))
def fn30L0 : Cd := .loop [0, 1, 2, 8, 9, 10] fn30B0
def fn30 : Vs.Fn := ⟨3,
  (.seq (.rg [⟨(some 6), none, .mv (.c (.int .i64 0))⟩,
      ⟨(some 7), none, .mv (.c (.bool false))⟩] [0, 1, 2])
  (.seq (.rg [⟨(some 12), none, .mv (.t 0)⟩,
      ⟨(some 13), none, .len false (.t 12)⟩,
      ⟨(some 8), none, .mv (.t 13)⟩] [0, 1, 2, 8])
  (.seq (.rg [⟨(some 14), none, .mv (.t 8)⟩,
      ⟨(some 9), none, .mv (.c (.int .i64 0))⟩,
      ⟨(some 10), none, .mv (.t 14)⟩] [0, 1, 2, 8, 9, 10])
  (.seq (.block 0
    fn30L0)
  (.seq (.rg [⟨(some 35), none, .mv (.t 9)⟩,
      ⟨(some 36), none, .mv (.t 9)⟩,
      ⟨(some 37), none, .mv (.t 8)⟩,
      ⟨(some 38), none, .bin .lss (.t 36) (.t 37)⟩,
      ⟨(some 39), none, .mv (.t 38)⟩,
      ⟨(some 40), some (39, true), .mv (.t 2)⟩,
      ⟨(some 41), some (39, true), .mv (.t 0)⟩,
      ⟨(some 42), some (39, true), .mv (.t 9)⟩,
      ⟨(some 43), some (39, true), .iad 2 (.t 41) (.t 42)⟩,
      ⟨(some 44), some (39, true), .load true 2 (.t 43) false⟩,
      ⟨(some 45), some (39, true), .mv (.t 1)⟩,
      ⟨(some 46), some (39, true), .call 2 (.t 40) [(.t 44), (.t 45)]⟩,
      ⟨(some 47), some (39, true), .bin .eql (.t 46) (.c (.int .i64 0))⟩,
      ⟨(some 48), none, .pick (.t 39) (.t 47) (.c (.bool false))⟩,
      ⟨(some 6), none, .mv (.t 35)⟩,
      ⟨(some 7), none, .mv (.t 48)⟩] [6, 7])
  .ret))))),
  [.t 6, .t 7]⟩

/- spillway/vector.Join$4 -/
def an31 : Ann := [[1, 2], [2], [4]]
def fn31 : Vs.Fn := ⟨2,
  (.seq (.rg [⟨(some 2), none, .box 2 (.t 0)⟩,
      ⟨(some 4), none, .mv (.c (.int .i64 0))⟩] [1, 2])
  (.seq (.rg [⟨(some 5), none, .fad 0 (.t 2)⟩,
      ⟨(some 6), none, .load false 1 (.t 5) false⟩,
      ⟨(some 7), none, .mv (.t 1)⟩,
      ⟨(some 8), none, .call 2 (.f 32) [(.t 6), (.t 7)]⟩,
      ⟨(some 4), none, .mv (.t 8)⟩] [4])
  .ret)),
  [.t 4]⟩

/- spillway/label.Cmp -/
def an32 : Ann := [[0, 1], [2], [4]]
def fn32 : Vs.Fn := ⟨2,
  (.seq (.rg [⟨(some 4), none, .mv (.c (.int .i64 0))⟩] [0, 1])
  (.seq (.rg [⟨(some 5), none, .mv (.t 0)⟩,
      ⟨(some 6), none, .mv (.t 1)⟩,
      ⟨(some 7), none, .call 2 (.f 65) [(.t 5), (.t 6), (.f 66)]⟩,
      ⟨(some 4), none, .mv (.t 7)⟩] [4])
  .ret)),
  [.t 4]⟩

/- spillway/vector.Compare -/
def an33 : Ann := [[0, 4, 5], [2], [0, 8], [8, 12], [8, 12, 13], [6, 7], [8, 12, 17], [6, 7], [8, 12, 21], [6, 7], [8, 12, 25], [6, 7], [8, 12, 29], [6, 7], [8, 33], [6, 7], [6, 7]]
def fn33 : Vs.Fn := ⟨3,
  (.seq (.rg [⟨(some 4), none, .box 2 (.t 1)⟩,
      ⟨(some 5), none, .box 2 (.t 2)⟩,
      ⟨(some 6), none, .mv (.c (.bool false))⟩,
      ⟨(some 7), none, .mv (.c (.bool false))⟩] [0, 4, 5])
  (.seq (.rg [⟨(some 9), none, .load true 2 (.t 4) false⟩,
      ⟨(some 10), none, .load true 2 (.t 5) false⟩,
      ⟨(some 11), none, .call 2 (.f 16) [(.t 9), (.t 10)]⟩,
      ⟨(some 8), none, .mv (.t 11)⟩] [0, 8])
  (.seq (.seq (.rg [⟨(some 12), none, .mv (.t 0)⟩] [8, 12])
  (.block 0
    (.seq (.rg [⟨(some 14), none, .bin .eql (.t 12) (.c (.string ⟨#[61, 61]⟩))⟩,
        ⟨(some 13), none, .mv (.t 14)⟩] [8, 12, 13])
    (.cond (.t 13)
      (.seq (.rg [⟨(some 15), none, .mv (.t 8)⟩,
          ⟨(some 16), none, .bin .eql (.t 15) (.c (.int .i64 0))⟩,
          ⟨(some 6), none, .mv (.t 16)⟩,
          ⟨(some 7), none, .mv (.c (.bool true))⟩] [6, 7])
      .ret)
      (.seq (.rg [⟨(some 18), none, .bin .eql (.t 12) (.c (.string ⟨#[33, 61]⟩))⟩,
          ⟨(some 17), none, .mv (.t 18)⟩] [8, 12, 17])
      (.cond (.t 17)
        (.seq (.rg [⟨(some 19), none, .mv (.t 8)⟩,
            ⟨(some 20), none, .bin .neq (.t 19) (.c (.int .i64 0))⟩,
            ⟨(some 6), none, .mv (.t 20)⟩,
            ⟨(some 7), none, .mv (.c (.bool true))⟩] [6, 7])
        .ret)
        (.seq (.rg [⟨(some 22), none, .bin .eql (.t 12) (.c (.string ⟨#[62]⟩))⟩,
            ⟨(some 21), none, .mv (.t 22)⟩] [8, 12, 21])
        (.cond (.t 21)
          (.seq (.rg [⟨(some 23), none, .mv (.t 8)⟩,
              ⟨(some 24), none, .bin .gtr (.t 23) (.c (.int .i64 0))⟩,
              ⟨(some 6), none, .mv (.t 24)⟩,
              ⟨(some 7), none, .mv (.c (.bool true))⟩] [6, 7])
          .ret)
          (.seq (.rg [⟨(some 26), none, .bin .eql (.t 12) (.c (.string ⟨#[60]⟩))⟩,
              ⟨(some 25), none, .mv (.t 26)⟩] [8, 12, 25])
          (.cond (.t 25)
            (.seq (.rg [⟨(some 27), none, .mv (.t 8)⟩,
                ⟨(some 28), none, .bin .lss (.t 27) (.c (.int .i64 0))⟩,
                ⟨(some 6), none, .mv (.t 28)⟩,
                ⟨(some 7), none, .mv (.c (.bool true))⟩] [6, 7])
            .ret)
            (.seq (.rg [⟨(some 30), none, .bin .eql (.t 12) (.c (.string ⟨#[62, 61]⟩))⟩,
                ⟨(some 29), none, .mv (.t 30)⟩] [8, 12, 29])
            (.cond (.t 29)
              (.seq (.rg [⟨(some 31), none, .mv (.t 8)⟩,
                  ⟨(some 32), none, .bin .geq (.t 31) (.c (.int .i64 0))⟩,
                  ⟨(some 6), none, .mv (.t 32)⟩,
                  ⟨(some 7), none, .mv (.c (.bool true))⟩] [6, 7])
              .ret)
              (.seq (.rg [⟨(some 34), none, .bin .eql (.t 12) (.c (.string ⟨#[60, 61]⟩))⟩,
                  ⟨(some 33), none, .mv (.t 34)⟩] [8, 33])
              (.cond (.t 33)
                (.seq (.rg [⟨(some 35), none, .mv (.t 8)⟩,
                    ⟨(some 36), none, .bin .leq (.t 35) (.c (.int .i64 0))⟩,
                    ⟨(some 6), none, .mv (.t 36)⟩,
                    ⟨(some 7), none, .mv (.c (.bool true))⟩] [6, 7])
                .ret)
                .skip))))))))))))))
  (.seq (.rg [⟨(some 6), none, .mv (.c (.bool false))⟩,
      ⟨(some 7), none, .mv (.c (.bool false))⟩] [6, 7])
  .ret)))),
  [.t 6, .t 7]⟩

/- spillway/vector.Arith -/
def an34 : Ann := [[0, 4, 5, 6], [4, 5, 6, 8], [4, 5, 6, 8, 9], [2], [6, 7], [4, 5, 6, 8, 14], [2], [6, 7], [4, 5, 6, 8, 19], [2], [6, 7], [4, 5, 6, 24], [2], [6, 7], [6, 7]]
def fn34 : Vs.Fn := ⟨3,
  (.seq (.rg [⟨(some 4), none, .box 2 (.t 1)⟩,
      ⟨(some 5), none, .box 2 (.t 2)⟩,
      ⟨(some 6), none, .alloc [(.bool false), (.int .i64 0)]⟩,
      ⟨(some 7), none, .mv (.c (.bool false))⟩] [0, 4, 5, 6])
  (.seq (.seq (.rg [⟨(some 8), none, .mv (.t 0)⟩] [4, 5, 6, 8])
  (.block 0
    (.seq (.rg [⟨(some 10), none, .bin .eql (.t 8) (.c (.string ⟨#[43]⟩))⟩,
        ⟨(some 9), none, .mv (.t 10)⟩] [4, 5, 6, 8, 9])
    (.cond (.t 9)
      (.seq (.rg [⟨(some 11), none, .load true 2 (.t 4) false⟩,
          ⟨(some 12), none, .load true 2 (.t 5) false⟩,
          ⟨(some 13), none, .call 2 (.f 15) [(.t 11), (.t 12)]⟩,
          ⟨none, none, .store 2 (.t 6) (.t 13)⟩,
          ⟨(some 7), none, .mv (.c (.bool true))⟩] [6, 7])
      .ret)
      (.seq (.rg [⟨(some 15), none, .bin .eql (.t 8) (.c (.string ⟨#[45]⟩))⟩,
          ⟨(some 14), none, .mv (.t 15)⟩] [4, 5, 6, 8, 14])
      (.cond (.t 14)
        (.seq (.rg [⟨(some 16), none, .load true 2 (.t 4) false⟩,
            ⟨(some 17), none, .load true 2 (.t 5) false⟩,
            ⟨(some 18), none, .call 2 (.f 69) [(.t 16), (.t 17)]⟩,
            ⟨none, none, .store 2 (.t 6) (.t 18)⟩,
            ⟨(some 7), none, .mv (.c (.bool true))⟩] [6, 7])
        .ret)
        (.seq (.rg [⟨(some 20), none, .bin .eql (.t 8) (.c (.string ⟨#[42]⟩))⟩,
            ⟨(some 19), none, .mv (.t 20)⟩] [4, 5, 6, 8, 19])
        (.cond (.t 19)
          (.seq (.rg [⟨(some 21), none, .load true 2 (.t 4) false⟩,
              ⟨(some 22), none, .load true 2 (.t 5) false⟩,
              ⟨(some 23), none, .call 2 (.f 70) [(.t 21), (.t 22)]⟩,
              ⟨none, none, .store 2 (.t 6) (.t 23)⟩,
              ⟨(some 7), none, .mv (.c (.bool true))⟩] [6, 7])
          .ret)
          (.seq (.rg [⟨(some 25), none, .bin .eql (.t 8) (.c (.string ⟨#[47]⟩))⟩,
              ⟨(some 24), none, .mv (.t 25)⟩] [4, 5, 6, 24])
          (.cond (.t 24)
            (.seq (.rg [⟨(some 26), none, .load true 2 (.t 4) false⟩,
                ⟨(some 27), none, .load true 2 (.t 5) false⟩,
                ⟨(some 28), none, .call 2 (.f 71) [(.t 26), (.t 27)]⟩,
                ⟨none, none, .store 2 (.t 6) (.t 28)⟩,
                ⟨(some 7), none, .mv (.c (.bool true))⟩] [6, 7])
            .ret)
            .skip))))))))))
  (.seq (.rg [⟨(some 29), none, .build [(.bool false), (.int .i64 0)] []⟩,
      ⟨none, none, .store 2 (.t 6) (.t 29)⟩,
      ⟨(some 7), none, .mv (.c (.bool false))⟩] [6, 7])
  .ret))),
  [.cell 6 true 2, .t 7]⟩

/- spillway/vector.single -/
def an35 : Ann := [[0], [2], [0, 5], [2, 3], [0], [2, 3]]
def fn35 : Vs.Fn := ⟨1,
  (.seq (.rg [⟨(some 2), none, .mv (.c (.slice none 0 0))⟩,
      ⟨(some 3), none, .mv (.c (.int .i64 0))⟩] [0])
  (.seq (.seq (.rg [⟨(some 4), none, .mv (.t 0)⟩,
      ⟨(some 5), none, .call 2 (.f 17) [(.t 4)]⟩] [0, 5])
  (.cond (.t 5)
    (.seq (.rg [⟨(some 2), none, .mv (.c (.slice none 0 0))⟩,
        ⟨(some 3), none, .mv (.c (.int .i64 171))⟩] [2, 3])
    .ret)
    .skip))
  (.seq (.rg [⟨(some 6), none, .mv (.t 0)⟩,
      ⟨(some 7), none, .call 0 (.f 19) [(.t 6)]⟩,
      ⟨(some 2), none, .mv (.t 7)⟩,
      ⟨(some 3), none, .mv (.c (.int .i64 0))⟩] [2, 3])
  .ret))),
  [.t 2, .t 3]⟩

/- spillway/fix.scaled -/
def an36 : Ann := [[0, 1, 2, 3, 8], [2], [0, 3, 8, 9, 10], [0, 3, 8, 9, 10, 21], [2], [8], [2], [0, 8, 11], [0, 8, 11, 31], [2], [8], [8, 11, 33], [8], [8]]
def fn36 : Vs.Fn := ⟨4,
  (.seq (.rg [⟨(some 8), none, .alloc [(.bool false), (.int .i64 0)]⟩] [0, 1, 2, 3, 8])
  (.seq (.rg [⟨(some 14), none, .mv (.t 1)⟩,
      ⟨(some 15), none, .mv (.t 2)⟩,
      ⟨(some 16), none, .call 2 (.f 72) [(.t 14), (.t 15)]⟩,
      ⟨(some 13), none, .mv (.t 16)⟩,
      ⟨(some 17), none, .ext (.t 13) 0⟩,
      ⟨(some 18), none, .ext (.t 13) 1⟩,
      ⟨(some 9), none, .mv (.t 17)⟩,
      ⟨(some 10), none, .mv (.t 18)⟩] [0, 3, 8, 9, 10])
  (.seq (.seq (.rg [⟨(some 19), none, .mv (.t 9)⟩,
      ⟨(some 20), none, .mv (.t 3)⟩,
      ⟨(some 21), none, .bin .geq (.t 19) (.t 20)⟩] [0, 3, 8, 9, 10, 21])
  (.cond (.t 21)
    (.seq (.rg [⟨(some 22), none, .call 2 (.f 73) []⟩,
        ⟨none, none, .store 2 (.t 8) (.t 22)⟩] [8])
    .ret)
    .skip))
  (.seq (.rg [⟨(some 24), none, .mv (.t 9)⟩,
      ⟨(some 25), none, .mv (.t 10)⟩,
      ⟨(some 26), none, .mv (.t 3)⟩,
      ⟨(some 27), none, .call 2 (.f 74) [(.t 24), (.t 25), (.t 26)]⟩,
      ⟨(some 23), none, .mv (.t 27)⟩,
      ⟨(some 28), none, .ext (.t 23) 0⟩,
      ⟨(some 29), none, .ext (.t 23) 1⟩,
      ⟨(some 11), none, .mv (.t 28)⟩,
      ⟨(some 12), none, .mv (.t 29)⟩] [0, 8, 11])
  (.seq (.seq (.rg [⟨(some 30), none, .mv (.t 11)⟩,
      ⟨(some 31), none, .bin .gtr (.t 30) (.c (.int .u64 9223372036854775807))⟩] [0, 8, 11, 31])
  (.cond (.t 31)
    (.seq (.rg [⟨(some 32), none, .call 2 (.f 73) []⟩,
        ⟨none, none, .store 2 (.t 8) (.t 32)⟩] [8])
    .ret)
    .skip))
  (.seq (.seq (.rg [⟨(some 33), none, .mv (.t 0)⟩] [8, 11, 33])
  (.cond (.t 33)
    (.seq (.rg [⟨(some 34), none, .mv (.t 11)⟩,
        ⟨(some 35), none, .cvi .i64 (.t 34)⟩,
        ⟨(some 36), none, .un .neg (.t 35)⟩,
        ⟨(some 37), none, .build [(.bool false), (.int .i64 0)] [(1, 1, (.t 36))]⟩,
        ⟨none, none, .store 2 (.t 8) (.t 37)⟩] [8])
    .ret)
    .skip))
  (.seq (.rg [⟨(some 38), none, .mv (.t 11)⟩,
      ⟨(some 39), none, .cvi .i64 (.t 38)⟩,
      ⟨(some 40), none, .build [(.bool false), (.int .i64 0)] [(1, 1, (.t 39))]⟩,
      ⟨none, none, .store 2 (.t 8) (.t 40)⟩] [8])
  .ret))))))),
  [.cell 8 true 2]⟩

/- spillway/fix.size -/
def an37 : Ann := [[0], [0, 4], [2], [2]]
def fn37 : Vs.Fn := ⟨1,
  (.seq (.rg [⟨(some 2), none, .mv (.c (.int .u64 0))⟩] [0])
  (.seq (.seq (.rg [⟨(some 3), none, .mv (.t 0)⟩,
      ⟨(some 4), none, .bin .lss (.t 3) (.c (.int .i64 0))⟩] [0, 4])
  (.cond (.t 4)
    (.seq (.rg [⟨(some 5), none, .mv (.t 0)⟩,
        ⟨(some 6), none, .cvi .u64 (.t 5)⟩,
        ⟨(some 7), none, .un .neg (.t 6)⟩,
        ⟨(some 2), none, .mv (.t 7)⟩] [2])
    .ret)
    .skip))
  (.seq (.rg [⟨(some 8), none, .mv (.t 0)⟩,
      ⟨(some 9), none, .cvi .u64 (.t 8)⟩,
      ⟨(some 2), none, .mv (.t 9)⟩] [2])
  .ret))),
  [.t 2]⟩

/- slices.Contains[[]string,string] -/
def an38 : Ann := [[0, 1], [2], [4]]
def fn38 : Vs.Fn := ⟨2,
  (.seq (.rg [⟨(some 4), none, .mv (.c (.bool false))⟩] [0, 1])
  (.seq (.rg [⟨(some 5), none, .mv (.t 0)⟩,
      ⟨(some 6), none, .mv (.t 1)⟩,
      ⟨(some 7), none, .call 2 (.f 75) [(.t 5), (.t 6)]⟩,
      ⟨(some 8), none, .bin .geq (.t 7) (.c (.int .i64 0))⟩,
      ⟨(some 4), none, .mv (.t 8)⟩] [4])
  .ret)),
  [.t 4]⟩

/- spillway/vector.Agg$1 -/
def an39 : Ann := [[], [2]]
def fn39 : Vs.Fn := ⟨1,
  (.seq (.rg [⟨(some 2), none, .mv (.c (.slice none 0 0))⟩] [])
  (.seq (.rg [⟨(some 2), none, .mv (.c (.slice none 0 0))⟩] [2])
  .ret)),
  [.t 2]⟩

/- spillway/vector.Agg$2 -/
def an40 : Ann := [[0, 1], [1], [3]]
def fn40 : Vs.Fn := ⟨2,
  (.seq (.rg [⟨(some 3), none, .mv (.c (.slice none 0 0))⟩] [0, 1])
  (.seq (.rg [⟨(some 4), none, .mv (.t 0)⟩,
      ⟨(some 5), none, .load false 1 (.t 1) false⟩,
      ⟨(some 6), none, .call 1 (.f 27) [(.t 4), (.t 5)]⟩,
      ⟨(some 3), none, .mv (.t 6)⟩] [3])
  .ret)),
  [.t 3]⟩

/- spillway/vector.Agg$3 -/
def an41 : Ann := [[0, 1], [1], [3]]
def fn41 : Vs.Fn := ⟨2,
  (.seq (.rg [⟨(some 3), none, .mv (.c (.slice none 0 0))⟩] [0, 1])
  (.seq (.rg [⟨(some 4), none, .mv (.t 0)⟩,
      ⟨(some 5), none, .load false 1 (.t 1) false⟩,
      ⟨(some 6), none, .call 1 (.f 25) [(.t 4), (.t 5)]⟩,
      ⟨(some 3), none, .mv (.t 6)⟩] [3])
  .ret)),
  [.t 3]⟩

/- spillway/vector.folded -/
def an42 : Ann := [[0, 1, 4], [2], [0, 1, 4, 5], [1, 4, 5, 9], [1, 4, 5, 9, 10], [2], [4], [1, 4, 5, 9, 14], [2], [2], [4], [1, 4, 5, 9, 20], [2], [2], [4], [1, 4, 5, 26], [4], [2], [2], [4]]
def fn42 : Vs.Fn := ⟨2,
  (.seq (.rg [⟨(some 4), none, .alloc [(.bool false), (.int .i64 0)]⟩] [0, 1, 4])
  (.seq (.rg [⟨(some 6), none, .mv (.t 1)⟩,
      ⟨(some 7), none, .len false (.t 6)⟩,
      ⟨(some 8), none, .call 2 (.f 11) [(.t 7)]⟩,
      ⟨(some 5), none, .alloc [(.bool false), (.int .i64 0)]⟩,
      ⟨none, none, .store 2 (.t 5) (.t 8)⟩] [0, 1, 4, 5])
  (.seq (.seq (.rg [⟨(some 9), none, .mv (.t 0)⟩] [1, 4, 5, 9])
  (.block 0
    (.seq (.rg [⟨(some 11), none, .bin .eql (.t 9) (.c (.string ⟨#[115, 117, 109]⟩))⟩,
        ⟨(some 10), none, .mv (.t 11)⟩] [1, 4, 5, 9, 10])
    (.cond (.t 10)
      (.seq (.rg [⟨(some 12), none, .mv (.t 1)⟩,
          ⟨(some 13), none, .call 2 (.f 44) [(.t 12)]⟩,
          ⟨none, none, .store 2 (.t 4) (.t 13)⟩] [4])
      .ret)
      (.seq (.rg [⟨(some 15), none, .bin .eql (.t 9) (.c (.string ⟨#[109, 105, 110]⟩))⟩,
          ⟨(some 14), none, .mv (.t 15)⟩] [1, 4, 5, 9, 14])
      (.cond (.t 14)
        (.seq (.rg [⟨(some 16), none, .mv (.t 1)⟩,
            ⟨(some 17), none, .call 2 (.f 76) [(.t 16), (.f 16)]⟩,
            ⟨(some 18), none, .bslice 1 2 [(.bool false), (.int .i64 0)] [(0, (.t 17))]⟩,
            ⟨(some 19), none, .call 2 (.f 44) [(.t 18)]⟩,
            ⟨none, none, .store 2 (.t 4) (.t 19)⟩] [4])
        .ret)
        (.seq (.rg [⟨(some 21), none, .bin .eql (.t 9) (.c (.string ⟨#[109, 97, 120]⟩))⟩,
            ⟨(some 20), none, .mv (.t 21)⟩] [1, 4, 5, 9, 20])
        (.cond (.t 20)
          (.seq (.rg [⟨(some 22), none, .mv (.t 1)⟩,
              ⟨(some 23), none, .call 2 (.f 77) [(.t 22), (.f 16)]⟩,
              ⟨(some 24), none, .bslice 1 2 [(.bool false), (.int .i64 0)] [(0, (.t 23))]⟩,
              ⟨(some 25), none, .call 2 (.f 44) [(.t 24)]⟩,
              ⟨none, none, .store 2 (.t 4) (.t 25)⟩] [4])
          .ret)
          (.seq (.rg [⟨(some 27), none, .bin .eql (.t 9) (.c (.string ⟨#[99, 111, 117, 110, 116]⟩))⟩,
              ⟨(some 26), none, .mv (.t 27)⟩] [1, 4, 5, 26])
          (.cond (.t 26)
            (.seq (.rg [⟨(some 28), none, .load true 2 (.t 5) false⟩,
                ⟨none, none, .store 2 (.t 4) (.t 28)⟩] [4])
            .ret)
            .skip))))))))))
  (.seq (.rg [⟨(some 29), none, .mv (.t 1)⟩,
      ⟨(some 30), none, .call 2 (.f 44) [(.t 29)]⟩,
      ⟨(some 31), none, .load true 2 (.t 5) false⟩,
      ⟨(some 32), none, .call 2 (.f 71) [(.t 30), (.t 31)]⟩,
      ⟨none, none, .store 2 (.t 4) (.t 32)⟩] [4])
  .ret)))),
  [.cell 4 true 2]⟩

/- spillway/vector.values -/
def an43 : Ann := [[0], [0, 3], [3, 6, 7, 8], [3, 6, 7, 8], [3, 6, 7, 8, 9], [3, 5, 6, 7, 8], [3, 6, 7, 8], [3, 6, 7, 8], [2]]
def fn43B0 : Cd :=
  (.seq (.rg [⟨(some 9), none, .bin .lss (.t 8) (.t 7)⟩] [3, 6, 7, 8, 9])
  (.seq (.cond (.t 9)
    .skip
    (.exit 0))
  (.seq (.block 1
    (.seq (.rg [⟨(some 10), none, .iad 3 (.t 6) (.t 8)⟩,
        ⟨(some 11), none, .load true 3 (.t 10) false⟩,
        ⟨(some 5), none, .alloc [.nsl, (.bool false), (.int .i64 0)]⟩,
        ⟨none, none, .store 3 (.t 5) (.t 11)⟩] [3, 5, 6, 7, 8])
    (.rg [⟨(some 12), none, .mv (.t 3)⟩,
        ⟨(some 13), none, .fad 1 (.t 5)⟩,
        ⟨(some 14), none, .load true 2 (.t 13) false⟩,
        ⟨(some 15), none, .bslice 1 2 [(.bool false), (.int .i64 0)] [(0, (.t 14))]⟩,
        ⟨(some 16), none, .app 2 16 (.t 12) (.t 15)⟩,
        ⟨(some 3), none, .mv (.t 16)⟩] [3, 6, 7, 8])))
  (.rg [⟨(some 17), none, .bin .add (.t 8) (.c (.int .i64 1))⟩,
      ⟨(some 8), none, .mv (.t 17)⟩] [3, 6, 7, 8]))))
def fn43L0 : Cd := .loop [3, 6, 7, 8] fn43B0
def fn43 : Vs.Fn := ⟨1,
  (.seq (.rg [⟨(some 2), none, .mv (.c (.slice none 0 0))⟩] [0])
  (.seq (.rg [⟨(some 3), none, .mv (.c (.slice none 0 0))⟩] [0, 3])
  (.seq (.seq (.rg [⟨(some 6), none, .mv (.t 0)⟩,
      ⟨(some 7), none, .len false (.t 6)⟩,
      ⟨(some 8), none, .mv (.c (.int .i64 0))⟩] [3, 6, 7, 8])
  (.block 0
    fn43L0))
  (.seq (.rg [⟨(some 18), none, .mv (.t 3)⟩,
      ⟨(some 2), none, .mv (.t 18)⟩] [2])
  .ret)))),
  [.t 2]⟩

/- spillway/fix.Sum -/
def an44 : Ann := [[0, 2], [0, 2, 3], [2, 3, 6, 7, 8], [2, 3, 6, 7, 8], [2, 3, 6, 7, 8, 9], [2, 3, 5, 6, 7, 8], [2], [2, 3, 5, 6, 7, 8, 13], [2], [2], [2], [2], [2, 3, 6, 7, 8], [2, 3, 6, 7, 8], [2], [2]]
def fn44B0 : Cd :=
  (.seq (.rg [⟨(some 9), none, .bin .lss (.t 8) (.t 7)⟩] [2, 3, 6, 7, 8, 9])
  (.seq (.cond (.t 9)
    .skip
    (.exit 0))
  (.seq (.block 1
    (.seq (.rg [⟨(some 10), none, .iad 2 (.t 6) (.t 8)⟩,
        ⟨(some 11), none, .load true 2 (.t 10) false⟩,
        ⟨(some 5), none, .alloc [(.bool false), (.int .i64 0)]⟩,
        ⟨none, none, .store 2 (.t 5) (.t 11)⟩] [2, 3, 5, 6, 7, 8])
    (.seq (.seq (.rg [⟨(some 12), none, .load true 2 (.t 5) false⟩,
        ⟨(some 13), none, .call 2 (.f 45) [(.t 12)]⟩] [2, 3, 5, 6, 7, 8, 13])
    (.cond (.t 13)
      (.seq (.rg [⟨(some 14), none, .call 2 (.f 73) []⟩,
          ⟨none, none, .store 2 (.t 2) (.t 14)⟩] [2])
      .ret)
      .skip))
    (.rg [⟨(some 15), none, .load true 2 (.t 3) false⟩,
        ⟨(some 16), none, .fad 1 (.t 5)⟩,
        ⟨(some 17), none, .load false 1 (.t 16) false⟩,
        ⟨(some 18), none, .call 2 (.f 79) [(.t 17)]⟩,
        ⟨(some 19), none, .call 2 (.f 78) [(.t 15), (.t 18)]⟩,
        ⟨none, none, .store 2 (.t 3) (.t 19)⟩] [2, 3, 6, 7, 8]))))
  (.rg [⟨(some 20), none, .bin .add (.t 8) (.c (.int .i64 1))⟩,
      ⟨(some 8), none, .mv (.t 20)⟩] [2, 3, 6, 7, 8]))))
def fn44L0 : Cd := .loop [2, 3, 6, 7, 8] fn44B0
def fn44 : Vs.Fn := ⟨1,
  (.seq (.rg [⟨(some 2), none, .alloc [(.bool false), (.int .i64 0)]⟩] [0, 2])
  (.seq (.rg [⟨(some 3), none, .alloc [(.int .u64 0), (.int .u64 0)]⟩] [0, 2, 3])
  (.seq (.seq (.rg [⟨(some 6), none, .mv (.t 0)⟩,
      ⟨(some 7), none, .len false (.t 6)⟩,
      ⟨(some 8), none, .mv (.c (.int .i64 0))⟩] [2, 3, 6, 7, 8])
  (.block 0
    fn44L0))
  (.seq (.rg [⟨(some 21), none, .load true 2 (.t 3) false⟩,
      ⟨(some 22), none, .call 2 (.f 80) [(.t 21)]⟩,
      ⟨none, none, .store 2 (.t 2) (.t 22)⟩] [2])
  .ret)))),
  [.cell 2 true 2]⟩

/- spillway/fix.over -/
def an45 : Ann := [[1], [2]]
def fn45 : Vs.Fn := ⟨1,
  (.seq (.rg [⟨(some 1), none, .box 2 (.t 0)⟩,
      ⟨(some 2), none, .mv (.c (.bool false))⟩] [1])
  (.seq (.rg [⟨(some 3), none, .fad 0 (.t 1)⟩,
      ⟨(some 4), none, .load false 1 (.t 3) false⟩,
      ⟨(some 5), none, .mv (.t 4)⟩,
      ⟨(some 6), some (5, false), .fad 1 (.t 1)⟩,
      ⟨(some 7), some (5, false), .load false 1 (.t 6) false⟩,
      ⟨(some 8), some (5, false), .bin .eql (.t 7) (.c (.int .i64 (-9223372036854775808)))⟩,
      ⟨(some 9), none, .pick (.t 5) (.c (.bool true)) (.t 8)⟩,
      ⟨(some 2), none, .mv (.t 9)⟩] [2])
  .ret)),
  [.t 2]⟩

/- cmp.Compare[int64] -/
def an46 : Ann := [[0, 1], [2], [0, 1, 5], [2], [0, 1, 5, 6], [0, 1, 6, 11], [12], [4], [4], [0, 1, 13], [4], [0, 1, 16], [4], [19], [4], [4]]
def fn46 : Vs.Fn := ⟨2,
  (.seq (.rg [⟨(some 4), none, .mv (.c (.int .i64 0))⟩] [0, 1])
  (.seq (.rg [⟨(some 7), none, .mv (.t 0)⟩,
      ⟨(some 8), none, .call 2 (.f 81) [(.t 7)]⟩,
      ⟨(some 5), none, .mv (.t 8)⟩] [0, 1, 5])
  (.seq (.rg [⟨(some 9), none, .mv (.t 1)⟩,
      ⟨(some 10), none, .call 2 (.f 81) [(.t 9)]⟩,
      ⟨(some 6), none, .mv (.t 10)⟩] [0, 1, 5, 6])
  (.seq (.seq (.rg [⟨(some 11), none, .mv (.t 5)⟩] [0, 1, 6, 11])
  (.cond (.t 11)
    (.seq (.seq (.rg [⟨(some 12), none, .mv (.t 6)⟩] [12])
    (.cond (.t 12)
      (.seq (.rg [⟨(some 4), none, .mv (.c (.int .i64 0))⟩] [4])
      .ret)
      .skip))
    (.seq (.rg [⟨(some 4), none, .mv (.c (.int .i64 (-1)))⟩] [4])
    .ret))
    .skip))
  (.seq (.seq (.rg [⟨(some 13), none, .mv (.t 6)⟩] [0, 1, 13])
  (.cond (.t 13)
    (.seq (.rg [⟨(some 4), none, .mv (.c (.int .i64 1))⟩] [4])
    .ret)
    .skip))
  (.seq (.seq (.rg [⟨(some 14), none, .mv (.t 0)⟩,
      ⟨(some 15), none, .mv (.t 1)⟩,
      ⟨(some 16), none, .bin .lss (.t 14) (.t 15)⟩] [0, 1, 16])
  (.cond (.t 16)
    (.seq (.rg [⟨(some 4), none, .mv (.c (.int .i64 (-1)))⟩] [4])
    .ret)
    .skip))
  (.seq (.seq (.rg [⟨(some 17), none, .mv (.t 0)⟩,
      ⟨(some 18), none, .mv (.t 1)⟩,
      ⟨(some 19), none, .bin .gtr (.t 17) (.t 18)⟩] [19])
  (.cond (.t 19)
    (.seq (.rg [⟨(some 4), none, .mv (.c (.int .i64 1))⟩] [4])
    .ret)
    .skip))
  (.seq (.rg [⟨(some 4), none, .mv (.c (.int .i64 0))⟩] [4])
  .ret)))))))),
  [.t 4]⟩

/- slices.Clone[[]spillway/api.Row,spillway/api.Row] -/
def an50 : Ann := [[0], [0, 4], [2], [2]]
def fn50 : Vs.Fn := ⟨1,
  (.seq (.rg [⟨(some 2), none, .mv (.c (.slice none 0 0))⟩] [0])
  (.seq (.seq (.rg [⟨(some 3), none, .mv (.t 0)⟩,
      ⟨(some 4), none, .eqn 1 false (.t 3)⟩] [0, 4])
  (.cond (.t 4)
    (.seq (.rg [⟨(some 2), none, .mv (.c (.slice none 0 0))⟩] [2])
    .ret)
    .skip))
  (.seq (.rg [⟨(some 5), none, .bslice 0 3 [.nsl, (.bool false), (.int .i64 0)] []⟩,
      ⟨(some 6), none, .mv (.t 0)⟩,
      ⟨(some 7), none, .app 3 40 (.t 5) (.t 6)⟩,
      ⟨(some 2), none, .mv (.t 7)⟩] [2])
  .ret))),
  [.t 2]⟩

/- slices.SortStableFunc[[]spillway/api.Row,spillway/api.Row] -/
def an51 : Ann := [[0], []]
def fn51 : Vs.Fn := ⟨2,
  (.rg [⟨(some 4), none, .mv (.t 0)⟩,
      ⟨(some 5), none, .mv (.t 0)⟩,
      ⟨(some 6), none, .len false (.t 5)⟩,
      ⟨(some 7), none, .mv (.t 1)⟩,
      ⟨(some 8), none, .call 0 (.f 82) [(.t 4), (.t 6), (.t 7)]⟩] []),
  []⟩

/- spillway/vector.Sort$1 -/
def an52 : Ann := [[2, 3], [2], [4]]
def fn52 : Vs.Fn := ⟨2,
  (.seq (.rg [⟨(some 2), none, .box 3 (.t 0)⟩,
      ⟨(some 3), none, .box 3 (.t 1)⟩,
      ⟨(some 4), none, .mv (.c (.int .i64 0))⟩] [2, 3])
  (.seq (.rg [⟨(some 5), none, .fad 0 (.t 2)⟩,
      ⟨(some 6), none, .load false 1 (.t 5) false⟩,
      ⟨(some 7), none, .fad 0 (.t 3)⟩,
      ⟨(some 8), none, .load false 1 (.t 7) false⟩,
      ⟨(some 9), none, .call 2 (.f 32) [(.t 6), (.t 8)]⟩,
      ⟨(some 4), none, .mv (.t 9)⟩] [4])
  .ret)),
  [.t 4]⟩

/- spillway/vector.bared -/
def an53 : Ann := [[0, 1], [0, 1, 6], [1, 6, 9, 10, 11], [1, 6, 9, 10, 11], [1, 6, 9, 10, 11, 12], [1, 6, 8, 9, 10, 11], [0, 0, 0, 8], [1], [0, 0, 0, 8], [2], [1, 6, 9, 10, 11], [1, 6, 9, 10, 11], [0], [4, 5]]
def fn53B0 : Cd :=
  (.seq (.rg [⟨(some 12), none, .bin .lss (.t 11) (.t 10)⟩] [1, 6, 9, 10, 11, 12])
  (.seq (.cond (.t 12)
    .skip
    (.exit 0))
  (.seq (.block 1
    (.seq (.rg [⟨(some 13), none, .iad 3 (.t 9) (.t 11)⟩,
        ⟨(some 14), none, .load true 3 (.t 13) false⟩,
        ⟨(some 8), none, .alloc [.nsl, (.bool false), (.int .i64 0)]⟩,
        ⟨none, none, .store 3 (.t 8) (.t 14)⟩] [1, 6, 8, 9, 10, 11])
    (.rgr [8, 8] [⟨(some 15), none, .mv (.t 6)⟩,
        ⟨(some 16), none, .fad 0 (.t 8)⟩,
        ⟨(some 17), none, .ldr false 1 (.t 16) (.t 8)⟩,
        ⟨(some 18), none, .call 1 (.f 25) [(.t 17), (.c (.slice none 0 0))]⟩,
        ⟨(some 19), none, .mv (.t 1)⟩,
        ⟨(some 20), none, .fad 1 (.t 8)⟩,
        ⟨(some 21), none, .ldr true 2 (.t 20) (.t 8)⟩,
        ⟨(some 22), none, .call 2 (.t 19) [(.t 21)]⟩,
        ⟨(some 23), none, .build [.nsl, (.bool false), (.int .i64 0)] [(0, 1, (.t 18)), (1, 2, (.t 22))]⟩,
        ⟨(some 24), none, .bslice 1 3 [.nsl, (.bool false), (.int .i64 0)] [(0, (.t 23))]⟩,
        ⟨(some 25), none, .app 3 40 (.t 15) (.t 24)⟩,
        ⟨(some 6), none, .mv (.t 25)⟩] [1, 6, 9, 10, 11])))
  (.rg [⟨(some 26), none, .bin .add (.t 11) (.c (.int .i64 1))⟩,
      ⟨(some 11), none, .mv (.t 26)⟩] [1, 6, 9, 10, 11]))))
def fn53L0 : Cd := .loop [1, 6, 9, 10, 11] fn53B0
def fn53 : Vs.Fn := ⟨2,
  (.seq (.rg [⟨(some 4), none, .mv (.c (.slice none 0 0))⟩,
      ⟨(some 5), none, .mv (.c (.int .i64 0))⟩] [0, 1])
  (.seq (.rg [⟨(some 6), none, .mv (.c (.slice none 0 0))⟩] [0, 1, 6])
  (.seq (.seq (.rg [⟨(some 9), none, .mv (.t 0)⟩,
      ⟨(some 10), none, .len false (.t 9)⟩,
      ⟨(some 11), none, .mv (.c (.int .i64 0))⟩] [1, 6, 9, 10, 11])
  (.block 0
    fn53L0))
  (.seq (.rg [⟨(some 27), none, .mv (.t 6)⟩,
      ⟨(some 28), none, .call 0 (.f 35) [(.t 27)]⟩,
      ⟨(some 29), none, .ext (.t 28) 0⟩,
      ⟨(some 30), none, .ext (.t 28) 1⟩,
      ⟨(some 4), none, .mv (.t 29)⟩,
      ⟨(some 5), none, .mv (.t 30)⟩] [4, 5])
  .ret)))),
  [.t 4, .t 5]⟩

/- spillway/vector.Bare$1 -/
def an54 : Ann := [[1, 2], [2]]
def fn54 : Vs.Fn := ⟨1,
  (.seq (.rg [⟨(some 1), none, .box 2 (.t 0)⟩,
      ⟨(some 2), none, .alloc [(.bool false), (.int .i64 0)]⟩] [1, 2])
  (.seq (.rg [⟨(some 3), none, .load true 2 (.t 1) false⟩,
      ⟨none, none, .store 2 (.t 2) (.t 3)⟩] [2])
  .ret)),
  [.cell 2 true 2]⟩

/- spillway/fix.Neg -/
def an55 : Ann := [[1, 2], [2], [1, 2, 4], [2], [2], [2]]
def fn55 : Vs.Fn := ⟨1,
  (.seq (.rg [⟨(some 1), none, .box 2 (.t 0)⟩,
      ⟨(some 2), none, .alloc [(.bool false), (.int .i64 0)]⟩] [1, 2])
  (.seq (.seq (.rg [⟨(some 3), none, .load true 2 (.t 1) false⟩,
      ⟨(some 4), none, .call 2 (.f 45) [(.t 3)]⟩] [1, 2, 4])
  (.cond (.t 4)
    (.seq (.rg [⟨(some 5), none, .call 2 (.f 73) []⟩,
        ⟨none, none, .store 2 (.t 2) (.t 5)⟩] [2])
    .ret)
    .skip))
  (.seq (.rg [⟨(some 6), none, .fad 1 (.t 1)⟩,
      ⟨(some 7), none, .load false 1 (.t 6) false⟩,
      ⟨(some 8), none, .un .neg (.t 7)⟩,
      ⟨(some 9), none, .build [(.bool false), (.int .i64 0)] [(1, 1, (.t 8))]⟩,
      ⟨none, none, .store 2 (.t 2) (.t 9)⟩] [2])
  .ret))),
  [.cell 2 true 2]⟩

/- spillway/vector.With$1 -/
def an56 : Ann := [[1, 2, 3, 4, 5], [2, 3, 4, 5, 6], [0, 0, 0, 2], [0, 0, 0, 3], [4, 5], [0, 0, 0, 3], [0, 0, 0, 2], [4, 5]]
def fn56 : Vs.Fn := ⟨3,
  (.seq (.rg [⟨(some 3), none, .box 2 (.t 0)⟩,
      ⟨(some 4), none, .alloc [(.bool false), (.int .i64 0)]⟩,
      ⟨(some 5), none, .alloc [(.bool false), (.int .i64 0)]⟩] [1, 2, 3, 4, 5])
  (.seq (.seq (.rg [⟨(some 6), none, .load false 1 (.t 1) false⟩] [2, 3, 4, 5, 6])
  (.cond (.t 6)
    (.seq (.rgr [2, 3] [⟨(some 7), none, .ldr true 2 (.t 2) (.t 2)⟩,
        ⟨(some 8), none, .ldr true 2 (.t 3) (.t 3)⟩,
        ⟨none, none, .store 2 (.t 4) (.t 7)⟩,
        ⟨none, none, .store 2 (.t 5) (.t 8)⟩] [4, 5])
    .ret)
    .skip))
  (.seq (.rgr [3, 2] [⟨(some 9), none, .ldr true 2 (.t 3) (.t 3)⟩,
      ⟨(some 10), none, .ldr true 2 (.t 2) (.t 2)⟩,
      ⟨none, none, .store 2 (.t 4) (.t 9)⟩,
      ⟨none, none, .store 2 (.t 5) (.t 10)⟩] [4, 5])
  .ret))),
  [.cell 4 true 2, .cell 5 true 2]⟩

/- slices.DeleteFunc[[]spillway/api.Row,spillway/api.Row] -/
def an57 : Ann := [[0, 1], [2], [0, 1, 5], [0, 1, 5, 12], [4], [0, 1, 5, 6], [0, 1, 5, 6], [0, 1, 5, 6, 19], [0, 1, 5, 6, 7], [2], [0, 1, 5, 6, 7, 29], [0, 1, 5, 6], [0, 1, 5, 6], [0, 1, 5, 6], [0, 5], [4]]
def fn57B0 : Cd :=
  (.seq (.seq (.rg [⟨(some 16), none, .mv (.t 6)⟩,
      ⟨(some 17), none, .mv (.t 0)⟩,
      ⟨(some 18), none, .len false (.t 17)⟩,
      ⟨(some 19), none, .bin .lss (.t 16) (.t 18)⟩] [0, 1, 5, 6, 19])
  (.cond (.t 19)
    .skip
    (.exit 0)))
  (.seq (.block 1
    (.seq (.rg [⟨(some 22), none, .mv (.t 0)⟩,
        ⟨(some 23), none, .mv (.t 6)⟩,
        ⟨(some 24), none, .iad 3 (.t 22) (.t 23)⟩,
        ⟨(some 25), none, .load true 3 (.t 24) false⟩,
        ⟨(some 7), none, .alloc [.nsl, (.bool false), (.int .i64 0)]⟩,
        ⟨none, none, .store 3 (.t 7) (.t 25)⟩] [0, 1, 5, 6, 7])
    (.seq (.rg [⟨(some 26), none, .mv (.t 1)⟩,
        ⟨(some 27), none, .load true 3 (.t 7) false⟩,
        ⟨(some 28), none, .call 2 (.t 26) [(.t 27)]⟩,
        ⟨(some 29), none, .un .not (.t 28)⟩] [0, 1, 5, 6, 7, 29])
    (.cond (.t 29)
      (.seq (.rg [⟨(some 30), none, .mv (.t 0)⟩,
          ⟨(some 31), none, .mv (.t 5)⟩,
          ⟨(some 32), none, .load true 3 (.t 7) false⟩,
          ⟨(some 33), none, .iad 3 (.t 30) (.t 31)⟩,
          ⟨none, none, .store 3 (.t 33) (.t 32)⟩] [0, 1, 5, 6])
      (.rg [⟨(some 34), none, .mv (.t 5)⟩,
          ⟨(some 35), none, .bin .add (.t 34) (.c (.int .i64 1))⟩,
          ⟨(some 5), none, .mv (.t 35)⟩] [0, 1, 5, 6]))
      .skip))))
  (.rg [⟨(some 20), none, .mv (.t 6)⟩,
      ⟨(some 21), none, .bin .add (.t 20) (.c (.int .i64 1))⟩,
      ⟨(some 6), none, .mv (.t 21)⟩] [0, 1, 5, 6])))
def fn57L0 : Cd := .loop [0, 1, 5, 6] fn57B0
def fn57 : Vs.Fn := ⟨2,
  (.seq (.rg [⟨(some 4), none, .mv (.c (.slice none 0 0))⟩] [0, 1])
  (.seq (.rg [⟨(some 8), none, .mv (.t 0)⟩,
      ⟨(some 9), none, .mv (.t 1)⟩,
      ⟨(some 10), none, .call 2 (.f 83) [(.t 8), (.t 9)]⟩,
      ⟨(some 5), none, .mv (.t 10)⟩] [0, 1, 5])
  (.seq (.seq (.rg [⟨(some 11), none, .mv (.t 5)⟩,
      ⟨(some 12), none, .bin .eql (.t 11) (.c (.int .i64 (-1)))⟩] [0, 1, 5, 12])
  (.cond (.t 12)
    (.seq (.rg [⟨(some 13), none, .mv (.t 0)⟩,
        ⟨(some 4), none, .mv (.t 13)⟩] [4])
    .ret)
    .skip))
  (.seq (.seq (.rg [⟨(some 14), none, .mv (.t 5)⟩,
      ⟨(some 15), none, .bin .add (.t 14) (.c (.int .i64 1))⟩,
      ⟨(some 6), none, .mv (.t 15)⟩] [0, 1, 5, 6])
  (.block 0
    fn57L0))
  (.seq (.rg [⟨(some 36), none, .mv (.t 0)⟩,
      ⟨(some 37), none, .mv (.t 5)⟩,
      ⟨(some 38), none, .slsl 3 (.t 36) (some (.t 37)) none none⟩,
      ⟨none, none, .clear 3 [.nsl, (.bool false), (.int .i64 0)] (.t 38)⟩] [0, 5])
  (.seq (.rg [⟨(some 39), none, .mv (.t 0)⟩,
      ⟨(some 40), none, .mv (.t 5)⟩,
      ⟨(some 41), none, .slsl 3 (.t 39) none (some (.t 40)) none⟩,
      ⟨(some 4), none, .mv (.t 41)⟩] [4])
  .ret)))))),
  [.t 4]⟩

/- spillway/vector.With$2 -/
def an58 : Ann := [[1, 2, 3], [2], [2, 5, 6], [2], [7], [4]]
def fn58 : Vs.Fn := ⟨3,
  (.seq (.rg [⟨(some 3), none, .box 3 (.t 0)⟩,
      ⟨(some 4), none, .mv (.c (.bool false))⟩] [1, 2, 3])
  (.seq (.rg [⟨(some 10), none, .load false 1 (.t 1) false⟩,
      ⟨(some 11), none, .fad 1 (.t 3)⟩,
      ⟨(some 12), none, .load true 2 (.t 11) false⟩,
      ⟨(some 13), none, .call 2 (.t 10) [(.t 12)]⟩,
      ⟨(some 9), none, .mv (.t 13)⟩,
      ⟨(some 14), none, .ext (.t 9) 0⟩,
      ⟨(some 15), none, .ext (.t 9) 1⟩,
      ⟨(some 5), none, .alloc [(.bool false), (.int .i64 0)]⟩,
      ⟨(some 6), none, .alloc [(.bool false), (.int .i64 0)]⟩,
      ⟨none, none, .store 2 (.t 5) (.t 14)⟩,
      ⟨none, none, .store 2 (.t 6) (.t 15)⟩] [2, 5, 6])
  (.seq (.rg [⟨(some 17), none, .load false 1 (.t 2) false⟩,
      ⟨(some 18), none, .load true 2 (.t 5) false⟩,
      ⟨(some 19), none, .load true 2 (.t 6) false⟩,
      ⟨(some 20), none, .call 2 (.f 33) [(.t 17), (.t 18), (.t 19)]⟩,
      ⟨(some 16), none, .mv (.t 20)⟩,
      ⟨(some 21), none, .ext (.t 16) 0⟩,
      ⟨(some 22), none, .ext (.t 16) 1⟩,
      ⟨(some 7), none, .mv (.t 21)⟩,
      ⟨(some 8), none, .mv (.t 22)⟩] [7])
  (.seq (.rg [⟨(some 23), none, .mv (.t 7)⟩,
      ⟨(some 24), none, .un .not (.t 23)⟩,
      ⟨(some 4), none, .mv (.t 24)⟩] [4])
  .ret)))),
  [.t 4]⟩

/- spillway/vector.With$3 -/
def an59 : Ann := [[1, 2, 3, 4], [2], [2, 4, 5, 6], [2], [4, 7], [4]]
def fn59 : Vs.Fn := ⟨3,
  (.seq (.rg [⟨(some 3), none, .box 2 (.t 0)⟩,
      ⟨(some 4), none, .alloc [(.bool false), (.int .i64 0)]⟩] [1, 2, 3, 4])
  (.seq (.rg [⟨(some 10), none, .load false 1 (.t 1) false⟩,
      ⟨(some 11), none, .load true 2 (.t 3) false⟩,
      ⟨(some 12), none, .call 2 (.t 10) [(.t 11)]⟩,
      ⟨(some 9), none, .mv (.t 12)⟩,
      ⟨(some 13), none, .ext (.t 9) 0⟩,
      ⟨(some 14), none, .ext (.t 9) 1⟩,
      ⟨(some 5), none, .alloc [(.bool false), (.int .i64 0)]⟩,
      ⟨(some 6), none, .alloc [(.bool false), (.int .i64 0)]⟩,
      ⟨none, none, .store 2 (.t 5) (.t 13)⟩,
      ⟨none, none, .store 2 (.t 6) (.t 14)⟩] [2, 4, 5, 6])
  (.seq (.rg [⟨(some 16), none, .load false 1 (.t 2) false⟩,
      ⟨(some 17), none, .load true 2 (.t 5) false⟩,
      ⟨(some 18), none, .load true 2 (.t 6) false⟩,
      ⟨(some 19), none, .call 2 (.f 34) [(.t 16), (.t 17), (.t 18)]⟩,
      ⟨(some 15), none, .mv (.t 19)⟩,
      ⟨(some 20), none, .ext (.t 15) 0⟩,
      ⟨(some 21), none, .ext (.t 15) 1⟩,
      ⟨(some 7), none, .alloc [(.bool false), (.int .i64 0)]⟩,
      ⟨none, none, .store 2 (.t 7) (.t 20)⟩,
      ⟨(some 8), none, .mv (.t 21)⟩] [4, 7])
  (.seq (.rg [⟨(some 22), none, .load true 2 (.t 7) false⟩,
      ⟨none, none, .store 2 (.t 4) (.t 22)⟩] [4])
  .ret)))),
  [.cell 4 true 2]⟩

/- spillway/label.those -/
def an60 : Ann := [[0, 3], [0], [0], [4]]
def fn60 : Vs.Fn := ⟨2,
  (.seq (.rg [⟨(some 3), none, .box 1 (.t 1)⟩,
      ⟨(some 4), none, .mv (.c (.slice none 0 0))⟩] [0, 3])
  (.seq (.rg [⟨(some 5), none, .mv (.t 0)⟩,
      ⟨(some 6), none, .call 0 (.f 85) [(.t 5)]⟩,
      ⟨(some 7), none, .mkf 86 [(.t 3)]⟩,
      ⟨(some 8), none, .call 0 (.f 84) [(.t 6), (.t 7)]⟩,
      ⟨(some 4), none, .mv (.t 8)⟩] [4])
  .ret)),
  [.t 4]⟩

/- spillway/label.Without$1 -/
def an61 : Ann := [[0, 1], [2], [3]]
def fn61 : Vs.Fn := ⟨2,
  (.seq (.rg [⟨(some 3), none, .mv (.c (.bool false))⟩] [0, 1])
  (.seq (.rg [⟨(some 4), none, .mv (.t 0)⟩,
      ⟨(some 5), none, .bin .neq (.t 4) (.c (.string ⟨#[95, 95, 110, 97, 109, 101, 95, 95]⟩))⟩,
      ⟨(some 6), none, .mv (.t 5)⟩,
      ⟨(some 7), some (6, true), .load false 1 (.t 1) false⟩,
      ⟨(some 8), some (6, true), .mv (.t 0)⟩,
      ⟨(some 9), some (6, true), .call 2 (.f 38) [(.t 7), (.t 8)]⟩,
      ⟨(some 10), some (6, true), .un .not (.t 9)⟩,
      ⟨(some 11), none, .pick (.t 6) (.t 10) (.c (.bool false))⟩,
      ⟨(some 3), none, .mv (.t 11)⟩] [3])
  .ret)),
  [.t 3]⟩

/- spillway/label.Keep$1 -/
def an62 : Ann := [[0, 1], [2], [3]]
def fn62 : Vs.Fn := ⟨2,
  (.seq (.rg [⟨(some 3), none, .mv (.c (.bool false))⟩] [0, 1])
  (.seq (.rg [⟨(some 4), none, .load false 1 (.t 1) false⟩,
      ⟨(some 5), none, .mv (.t 0)⟩,
      ⟨(some 6), none, .call 2 (.f 38) [(.t 4), (.t 5)]⟩,
      ⟨(some 3), none, .mv (.t 6)⟩] [3])
  .ret)),
  [.t 3]⟩

/- spillway/vector.keys$1 -/
def an63 : Ann := [[1, 2], [2], [4]]
def fn63 : Vs.Fn := ⟨2,
  (.seq (.rg [⟨(some 2), none, .box 2 (.t 0)⟩,
      ⟨(some 4), none, .mv (.c (.int .i64 0))⟩] [1, 2])
  (.seq (.rg [⟨(some 5), none, .fad 0 (.t 2)⟩,
      ⟨(some 6), none, .load false 1 (.t 5) false⟩,
      ⟨(some 7), none, .mv (.t 1)⟩,
      ⟨(some 8), none, .call 2 (.f 32) [(.t 6), (.t 7)]⟩,
      ⟨(some 4), none, .mv (.t 8)⟩] [4])
  .ret)),
  [.t 4]⟩

/- slices.Insert[[]spillway/vector.keyed,spillway/vector.keyed] -/
def an64 : Ann := [[0, 1, 2], [0, 1, 2], [0, 1, 2, 7], [0, 1, 2, 7, 16], [6], [0, 1, 2, 7, 8], [0, 1, 2, 7, 8, 22], [6], [0, 1, 2, 7, 8, 31], [0, 1, 2, 7, 9], [0, 1, 7, 9], [9], [6], [0, 1, 2, 7, 8], [2], [0, 1, 2, 7, 8, 68], [0, 1, 2], [0], [6], [0, 1, 7], [2], [0], [6]]
def fn64 : Vs.Fn := ⟨3, insW 2 48, [.t 3]⟩

/- slices.CompareFunc[[]spillway/api.Pair,[]spillway/api.Pair,spillway/api.Pair,spillway/api.Pair] -/
def an65 : Ann := [[0, 1, 2], [0, 1, 2, 11, 12, 13], [0, 1, 2, 11, 12, 13], [0, 1, 2, 11, 12, 13, 14], [0, 1, 2, 7, 8, 11, 12, 13], [0, 1, 2, 7, 8, 11, 12, 13, 21], [6], [0, 1, 2, 8, 9, 11, 12, 13], [2], [0, 1, 2, 10, 11, 12, 13], [0, 1, 2, 10, 11, 12, 13, 31], [6], [0, 1, 2, 11, 12, 13], [38], [6], [6]]
def fn65B0 : Cd :=
  (.seq (.rg [⟨(some 14), none, .bin .lss (.t 13) (.t 12)⟩] [0, 1, 2, 11, 12, 13, 14])
  (.seq (.cond (.t 14)
    .skip
    (.exit 0))
  (.seq (.block 1
    (.seq (.rg [⟨(some 15), none, .mv (.t 13)⟩,
        ⟨(some 16), none, .iad 2 (.t 11) (.t 13)⟩,
        ⟨(some 17), none, .load true 2 (.t 16) false⟩,
        ⟨(some 8), none, .alloc [(.str ⟨#[]⟩), (.str ⟨#[]⟩)]⟩,
        ⟨(some 7), none, .mv (.t 15)⟩,
        ⟨none, none, .store 2 (.t 8) (.t 17)⟩] [0, 1, 2, 7, 8, 11, 12, 13])
    (.seq (.seq (.rg [⟨(some 18), none, .mv (.t 7)⟩,
        ⟨(some 19), none, .mv (.t 1)⟩,
        ⟨(some 20), none, .len false (.t 19)⟩,
        ⟨(some 21), none, .bin .geq (.t 18) (.t 20)⟩] [0, 1, 2, 7, 8, 11, 12, 13, 21])
    (.cond (.t 21)
      (.seq (.rg [⟨(some 6), none, .mv (.c (.int .i64 1))⟩] [6])
      .ret)
      .skip))
    (.seq (.rg [⟨(some 22), none, .mv (.t 1)⟩,
        ⟨(some 23), none, .mv (.t 7)⟩,
        ⟨(some 24), none, .iad 2 (.t 22) (.t 23)⟩,
        ⟨(some 25), none, .load true 2 (.t 24) false⟩,
        ⟨(some 9), none, .alloc [(.str ⟨#[]⟩), (.str ⟨#[]⟩)]⟩,
        ⟨none, none, .store 2 (.t 9) (.t 25)⟩] [0, 1, 2, 8, 9, 11, 12, 13])
    (.seq (.rg [⟨(some 26), none, .mv (.t 2)⟩,
        ⟨(some 27), none, .load true 2 (.t 8) false⟩,
        ⟨(some 28), none, .load true 2 (.t 9) false⟩,
        ⟨(some 29), none, .call 2 (.t 26) [(.t 27), (.t 28)]⟩,
        ⟨(some 10), none, .mv (.t 29)⟩] [0, 1, 2, 10, 11, 12, 13])
    (.seq (.rg [⟨(some 30), none, .mv (.t 10)⟩,
        ⟨(some 31), none, .bin .neq (.t 30) (.c (.int .i64 0))⟩] [0, 1, 2, 10, 11, 12, 13, 31])
    (.cond (.t 31)
      (.seq (.rg [⟨(some 32), none, .mv (.t 10)⟩,
          ⟨(some 6), none, .mv (.t 32)⟩] [6])
      .ret)
      .skip)))))))
  (.rg [⟨(some 33), none, .bin .add (.t 13) (.c (.int .i64 1))⟩,
      ⟨(some 13), none, .mv (.t 33)⟩] [0, 1, 2, 11, 12, 13]))))
def fn65L0 : Cd := .loop [0, 1, 2, 11, 12, 13] fn65B0
def fn65 : Vs.Fn := ⟨3,
  (.seq (.rg [⟨(some 6), none, .mv (.c (.int .i64 0))⟩] [0, 1, 2])
  (.seq (.seq (.rg [⟨(some 11), none, .mv (.t 0)⟩,
      ⟨(some 12), none, .len false (.t 11)⟩,
      ⟨(some 13), none, .mv (.c (.int .i64 0))⟩] [0, 1, 2, 11, 12, 13])
  (.block 0
    fn65L0))
  (.seq (.seq (.rg [⟨(some 34), none, .mv (.t 0)⟩,
      ⟨(some 35), none, .len false (.t 34)⟩,
      ⟨(some 36), none, .mv (.t 1)⟩,
      ⟨(some 37), none, .len false (.t 36)⟩,
      ⟨(some 38), none, .bin .lss (.t 35) (.t 37)⟩] [38])
  (.cond (.t 38)
    (.seq (.rg [⟨(some 6), none, .mv (.c (.int .i64 (-1)))⟩] [6])
    .ret)
    .skip))
  (.seq (.rg [⟨(some 6), none, .mv (.c (.int .i64 0))⟩] [6])
  .ret)))),
  [.t 6]⟩

/- spillway/label.Cmp$1 -/
def an66 : Ann := [[2, 3], [2], [2], [2], [4]]
def fn66 : Vs.Fn := ⟨2,
  (.seq (.rg [⟨(some 2), none, .box 2 (.t 0)⟩,
      ⟨(some 3), none, .box 2 (.t 1)⟩,
      ⟨(some 4), none, .mv (.c (.int .i64 0))⟩] [2, 3])
  (.seq (.rg [⟨(some 5), none, .fad 0 (.t 2)⟩,
      ⟨(some 6), none, .load false 1 (.t 5) false⟩,
      ⟨(some 7), none, .fad 0 (.t 3)⟩,
      ⟨(some 8), none, .load false 1 (.t 7) false⟩,
      ⟨(some 9), none, .call 2 (.f 68) [(.t 6), (.t 8)]⟩,
      ⟨(some 10), none, .fad 1 (.t 2)⟩,
      ⟨(some 11), none, .load false 1 (.t 10) false⟩,
      ⟨(some 12), none, .fad 1 (.t 3)⟩,
      ⟨(some 13), none, .load false 1 (.t 12) false⟩,
      ⟨(some 14), none, .call 2 (.f 68) [(.t 11), (.t 13)]⟩,
      ⟨(some 15), none, .bslice 2 1 [(.int .i64 0)] [(0, (.t 9)), (1, (.t 14))]⟩,
      ⟨(some 16), none, .call 2 (.f 67) [(.t 15)]⟩,
      ⟨(some 4), none, .mv (.t 16)⟩] [4])
  .ret)),
  [.t 4]⟩

/- cmp.Or[int] -/
def an67 : Ann := [[0], [0, 3], [3, 6, 7, 8], [3, 6, 7, 8], [3, 6, 7, 8, 9], [3, 5, 6, 7, 8], [3, 5, 6, 7, 8, 14], [2], [3, 6, 7, 8], [2]]
def fn67B0 : Cd :=
  (.seq (.rg [⟨(some 9), none, .bin .lss (.t 8) (.t 7)⟩] [3, 6, 7, 8, 9])
  (.seq (.cond (.t 9)
    .skip
    (.exit 0))
  (.seq (.block 1
    (.seq (.rg [⟨(some 10), none, .iad 1 (.t 6) (.t 8)⟩,
        ⟨(some 11), none, .load false 1 (.t 10) false⟩,
        ⟨(some 5), none, .mv (.t 11)⟩] [3, 5, 6, 7, 8])
    (.seq (.rg [⟨(some 12), none, .mv (.t 5)⟩,
        ⟨(some 13), none, .mv (.t 3)⟩,
        ⟨(some 14), none, .bin .neq (.t 12) (.t 13)⟩] [3, 5, 6, 7, 8, 14])
    (.cond (.t 14)
      (.seq (.rg [⟨(some 15), none, .mv (.t 5)⟩,
          ⟨(some 2), none, .mv (.t 15)⟩] [2])
      .ret)
      .skip))))
  (.rg [⟨(some 16), none, .bin .add (.t 8) (.c (.int .i64 1))⟩,
      ⟨(some 8), none, .mv (.t 16)⟩] [3, 6, 7, 8]))))
def fn67L0 : Cd := .loop [3, 6, 7, 8] fn67B0
def fn67 : Vs.Fn := ⟨1,
  (.seq (.rg [⟨(some 2), none, .mv (.c (.int .i64 0))⟩] [0])
  (.seq (.rg [⟨(some 3), none, .mv (.c (.int .i64 0))⟩] [0, 3])
  (.seq (.seq (.rg [⟨(some 6), none, .mv (.t 0)⟩,
      ⟨(some 7), none, .len false (.t 6)⟩,
      ⟨(some 8), none, .mv (.c (.int .i64 0))⟩] [3, 6, 7, 8])
  (.block 0
    fn67L0))
  (.seq (.rg [⟨(some 17), none, .mv (.t 3)⟩,
      ⟨(some 2), none, .mv (.t 17)⟩] [2])
  .ret)))),
  [.t 2]⟩

/- strings.Compare -/
def an68 : Ann := [[0, 1], [2], [4]]
def fn68 : Vs.Fn := ⟨2,
  (.seq (.rg [⟨(some 4), none, .mv (.c (.int .i64 0))⟩] [0, 1])
  (.seq (.rg [⟨(some 5), none, .mv (.t 0)⟩,
      ⟨(some 6), none, .mv (.t 1)⟩,
      ⟨(some 7), none, .call 2 (.f 89) [(.t 5), (.t 6)]⟩,
      ⟨(some 4), none, .mv (.t 7)⟩] [4])
  .ret)),
  [.t 4]⟩

/- spillway/fix.Sub -/
def an69 : Ann := [[2, 3, 4], [2], [2], [4]]
def fn69 : Vs.Fn := ⟨2,
  (.seq (.rg [⟨(some 2), none, .box 2 (.t 0)⟩,
      ⟨(some 3), none, .box 2 (.t 1)⟩,
      ⟨(some 4), none, .alloc [(.bool false), (.int .i64 0)]⟩] [2, 3, 4])
  (.seq (.rg [⟨(some 5), none, .load true 2 (.t 2) false⟩,
      ⟨(some 6), none, .load true 2 (.t 3) false⟩,
      ⟨(some 7), none, .call 2 (.f 55) [(.t 6)]⟩,
      ⟨(some 8), none, .bslice 2 2 [(.bool false), (.int .i64 0)] [(0, (.t 5)), (1, (.t 7))]⟩,
      ⟨(some 9), none, .call 2 (.f 44) [(.t 8)]⟩,
      ⟨none, none, .store 2 (.t 4) (.t 9)⟩] [4])
  .ret)),
  [.cell 4 true 2]⟩

/- spillway/fix.Mul -/
def an70 : Ann := [[2, 3, 4], [2], [2], [2, 3, 4, 10], [2], [4], [2], [2], [2], [4]]
def fn70 : Vs.Fn := ⟨2,
  (.seq (.rg [⟨(some 2), none, .box 2 (.t 0)⟩,
      ⟨(some 3), none, .box 2 (.t 1)⟩,
      ⟨(some 4), none, .alloc [(.bool false), (.int .i64 0)]⟩] [2, 3, 4])
  (.seq (.seq (.rg [⟨(some 5), none, .load true 2 (.t 2) false⟩,
      ⟨(some 6), none, .call 2 (.f 45) [(.t 5)]⟩,
      ⟨(some 7), none, .mv (.t 6)⟩,
      ⟨(some 8), some (7, false), .load true 2 (.t 3) false⟩,
      ⟨(some 9), some (7, false), .call 2 (.f 45) [(.t 8)]⟩,
      ⟨(some 10), none, .pick (.t 7) (.c (.bool true)) (.t 9)⟩] [2, 3, 4, 10])
  (.cond (.t 10)
    (.seq (.rg [⟨(some 11), none, .call 2 (.f 73) []⟩,
        ⟨none, none, .store 2 (.t 4) (.t 11)⟩] [4])
    .ret)
    .skip))
  (.seq (.rg [⟨(some 12), none, .fad 1 (.t 2)⟩,
      ⟨(some 13), none, .load false 1 (.t 12) false⟩,
      ⟨(some 14), none, .bin .lss (.t 13) (.c (.int .i64 0))⟩,
      ⟨(some 15), none, .fad 1 (.t 3)⟩,
      ⟨(some 16), none, .load false 1 (.t 15) false⟩,
      ⟨(some 17), none, .bin .lss (.t 16) (.c (.int .i64 0))⟩,
      ⟨(some 18), none, .eqb true (.t 14) (.t 17)⟩,
      ⟨(some 19), none, .fad 1 (.t 2)⟩,
      ⟨(some 20), none, .load false 1 (.t 19) false⟩,
      ⟨(some 21), none, .call 2 (.f 37) [(.t 20)]⟩,
      ⟨(some 22), none, .fad 1 (.t 3)⟩,
      ⟨(some 23), none, .load false 1 (.t 22) false⟩,
      ⟨(some 24), none, .call 2 (.f 37) [(.t 23)]⟩,
      ⟨(some 25), none, .call 2 (.f 36) [(.t 18), (.t 21), (.t 24), (.c (.int .u64 1000000))]⟩,
      ⟨none, none, .store 2 (.t 4) (.t 25)⟩] [4])
  .ret))),
  [.cell 4 true 2]⟩

/- spillway/fix.Div -/
def an71 : Ann := [[2, 3, 4], [2], [2], [2, 3, 4, 15], [2], [4], [2], [2], [2], [4]]
def fn71 : Vs.Fn := ⟨2,
  (.seq (.rg [⟨(some 2), none, .box 2 (.t 0)⟩,
      ⟨(some 3), none, .box 2 (.t 1)⟩,
      ⟨(some 4), none, .alloc [(.bool false), (.int .i64 0)]⟩] [2, 3, 4])
  (.seq (.seq (.rg [⟨(some 5), none, .load true 2 (.t 2) false⟩,
      ⟨(some 6), none, .call 2 (.f 45) [(.t 5)]⟩,
      ⟨(some 7), none, .mv (.t 6)⟩,
      ⟨(some 8), some (7, false), .load true 2 (.t 3) false⟩,
      ⟨(some 9), some (7, false), .call 2 (.f 45) [(.t 8)]⟩,
      ⟨(some 10), none, .pick (.t 7) (.c (.bool true)) (.t 9)⟩,
      ⟨(some 11), none, .mv (.t 10)⟩,
      ⟨(some 12), some (11, false), .fad 1 (.t 3)⟩,
      ⟨(some 13), some (11, false), .load false 1 (.t 12) false⟩,
      ⟨(some 14), some (11, false), .bin .eql (.t 13) (.c (.int .i64 0))⟩,
      ⟨(some 15), none, .pick (.t 11) (.c (.bool true)) (.t 14)⟩] [2, 3, 4, 15])
  (.cond (.t 15)
    (.seq (.rg [⟨(some 16), none, .call 2 (.f 73) []⟩,
        ⟨none, none, .store 2 (.t 4) (.t 16)⟩] [4])
    .ret)
    .skip))
  (.seq (.rg [⟨(some 17), none, .fad 1 (.t 2)⟩,
      ⟨(some 18), none, .load false 1 (.t 17) false⟩,
      ⟨(some 19), none, .bin .lss (.t 18) (.c (.int .i64 0))⟩,
      ⟨(some 20), none, .fad 1 (.t 3)⟩,
      ⟨(some 21), none, .load false 1 (.t 20) false⟩,
      ⟨(some 22), none, .bin .lss (.t 21) (.c (.int .i64 0))⟩,
      ⟨(some 23), none, .eqb true (.t 19) (.t 22)⟩,
      ⟨(some 24), none, .fad 1 (.t 2)⟩,
      ⟨(some 25), none, .load false 1 (.t 24) false⟩,
      ⟨(some 26), none, .call 2 (.f 37) [(.t 25)]⟩,
      ⟨(some 27), none, .fad 1 (.t 3)⟩,
      ⟨(some 28), none, .load false 1 (.t 27) false⟩,
      ⟨(some 29), none, .call 2 (.f 37) [(.t 28)]⟩,
      ⟨(some 30), none, .call 2 (.f 36) [(.t 23), (.t 26), (.c (.int .u64 1000000)), (.t 29)]⟩,
      ⟨none, none, .store 2 (.t 4) (.t 30)⟩] [4])
  .ret))),
  [.cell 4 true 2]⟩

/- math/bits.Mul64 -/
def an72 : Ann := [[0, 1], [0, 1, 6], [0, 1, 6, 7], [0, 1, 6, 7, 8], [0, 1, 6, 7, 8, 9], [0, 1, 6, 7, 8, 9, 10], [0, 1, 6, 7, 9, 11], [0, 1, 6, 7, 9, 11, 12], [0, 1, 6, 7, 9, 12, 13], [0, 1, 7, 9, 12, 13], [0, 1, 4], [4, 5]]
def fn72 : Vs.Fn := ⟨2,
  (.seq (.rg [⟨(some 4), none, .mv (.c (.int .u64 0))⟩,
      ⟨(some 5), none, .mv (.c (.int .u64 0))⟩] [0, 1])
  (.seq (.rg [⟨(some 14), none, .mv (.t 0)⟩,
      ⟨(some 15), none, .bin .and (.t 14) (.c (.int .u64 4294967295))⟩,
      ⟨(some 6), none, .mv (.t 15)⟩] [0, 1, 6])
  (.seq (.rg [⟨(some 16), none, .mv (.t 0)⟩,
      ⟨(some 17), none, .bin .shr (.t 16) (.c (.int .u64 32))⟩,
      ⟨(some 7), none, .mv (.t 17)⟩] [0, 1, 6, 7])
  (.seq (.rg [⟨(some 18), none, .mv (.t 1)⟩,
      ⟨(some 19), none, .bin .and (.t 18) (.c (.int .u64 4294967295))⟩,
      ⟨(some 8), none, .mv (.t 19)⟩] [0, 1, 6, 7, 8])
  (.seq (.rg [⟨(some 20), none, .mv (.t 1)⟩,
      ⟨(some 21), none, .bin .shr (.t 20) (.c (.int .u64 32))⟩,
      ⟨(some 9), none, .mv (.t 21)⟩] [0, 1, 6, 7, 8, 9])
  (.seq (.rg [⟨(some 22), none, .mv (.t 6)⟩,
      ⟨(some 23), none, .mv (.t 8)⟩,
      ⟨(some 24), none, .bin .mul (.t 22) (.t 23)⟩,
      ⟨(some 10), none, .mv (.t 24)⟩] [0, 1, 6, 7, 8, 9, 10])
  (.seq (.rg [⟨(some 25), none, .mv (.t 7)⟩,
      ⟨(some 26), none, .mv (.t 8)⟩,
      ⟨(some 27), none, .bin .mul (.t 25) (.t 26)⟩,
      ⟨(some 28), none, .mv (.t 10)⟩,
      ⟨(some 29), none, .bin .shr (.t 28) (.c (.int .u64 32))⟩,
      ⟨(some 30), none, .bin .add (.t 27) (.t 29)⟩,
      ⟨(some 11), none, .mv (.t 30)⟩] [0, 1, 6, 7, 9, 11])
  (.seq (.rg [⟨(some 31), none, .mv (.t 11)⟩,
      ⟨(some 32), none, .bin .and (.t 31) (.c (.int .u64 4294967295))⟩,
      ⟨(some 12), none, .mv (.t 32)⟩] [0, 1, 6, 7, 9, 11, 12])
  (.seq (.rg [⟨(some 33), none, .mv (.t 11)⟩,
      ⟨(some 34), none, .bin .shr (.t 33) (.c (.int .u64 32))⟩,
      ⟨(some 13), none, .mv (.t 34)⟩] [0, 1, 6, 7, 9, 12, 13])
  (.seq (.rg [⟨(some 35), none, .mv (.t 12)⟩,
      ⟨(some 36), none, .mv (.t 6)⟩,
      ⟨(some 37), none, .mv (.t 9)⟩,
      ⟨(some 38), none, .bin .mul (.t 36) (.t 37)⟩,
      ⟨(some 39), none, .bin .add (.t 35) (.t 38)⟩,
      ⟨(some 12), none, .mv (.t 39)⟩] [0, 1, 7, 9, 12, 13])
  (.seq (.rg [⟨(some 40), none, .mv (.t 7)⟩,
      ⟨(some 41), none, .mv (.t 9)⟩,
      ⟨(some 42), none, .bin .mul (.t 40) (.t 41)⟩,
      ⟨(some 43), none, .mv (.t 13)⟩,
      ⟨(some 44), none, .bin .add (.t 42) (.t 43)⟩,
      ⟨(some 45), none, .mv (.t 12)⟩,
      ⟨(some 46), none, .bin .shr (.t 45) (.c (.int .u64 32))⟩,
      ⟨(some 47), none, .bin .add (.t 44) (.t 46)⟩,
      ⟨(some 4), none, .mv (.t 47)⟩] [0, 1, 4])
  (.seq (.rg [⟨(some 48), none, .mv (.t 0)⟩,
      ⟨(some 49), none, .mv (.t 1)⟩,
      ⟨(some 50), none, .bin .mul (.t 48) (.t 49)⟩,
      ⟨(some 5), none, .mv (.t 50)⟩] [4, 5])
  .ret)))))))))))),
  [.t 4, .t 5]⟩

/- spillway/fix.ovf -/
def an73 : Ann := [[0], [0]]
def fn73 : Vs.Fn := ⟨0,
  (.seq (.rg [⟨(some 0), none, .alloc [(.bool false), (.int .i64 0)]⟩] [0])
  (.seq (.rg [⟨(some 1), none, .build [(.bool false), (.int .i64 0)] [(0, 1, (.c (.bool true)))]⟩,
      ⟨none, none, .store 2 (.t 0) (.t 1)⟩] [0])
  .ret)),
  [.cell 0 true 2]⟩

/- math/bits.Div64 -/
def an74 : Ann := [[0, 1, 2], [0, 1, 2, 20], [0, 1, 2], [0, 1, 2, 24], [0, 1, 2], [0, 1, 2, 27], [6, 7], [2], [0, 1, 2, 8], [0, 1, 2, 8], [0, 1, 2, 8, 9], [0, 1, 2, 8, 9, 10], [1, 2, 8, 9, 10, 11], [2, 8, 9, 10, 11, 12], [2, 8, 9, 10, 11, 12, 13], [2, 8, 9, 10, 11, 13, 14], [2, 8, 9, 10, 11, 13, 14, 15], [2, 8, 9, 10, 11, 13, 14, 15, 16], [2, 8, 9, 10, 11, 13, 14, 15, 16], [2, 8, 9, 10, 11, 13, 14, 15, 16, 78], [2, 8, 9, 10, 11, 13, 14, 15, 16], [2, 8, 9, 10, 11, 13, 14, 15, 16], [2, 8, 9, 10, 11, 13, 14, 15, 16, 85], [2, 8, 9, 10, 14, 15, 17], [2, 8, 9, 10, 14, 15, 17, 18], [2, 8, 9, 10, 14, 15, 16, 17, 18], [2, 8, 9, 10, 14, 15, 16, 17, 18], [2, 8, 9, 10, 14, 15, 16, 17, 18, 113], [2, 8, 9, 10, 14, 15, 16, 17, 18], [2, 8, 9, 10, 14, 15, 16, 17, 18], [2, 8, 9, 10, 14, 15, 16, 17, 18, 120], [6, 7]]
def fn74B0 : Cd :=
  (.seq (.seq (.rg [⟨(some 67), none, .mv (.t 15)⟩,
      ⟨(some 68), none, .bin .geq (.t 67) (.c (.int .u64 4294967296))⟩,
      ⟨(some 69), none, .mv (.t 68)⟩,
      ⟨(some 70), some (69, false), .mv (.t 15)⟩,
      ⟨(some 71), some (69, false), .mv (.t 10)⟩,
      ⟨(some 72), some (69, false), .bin .mul (.t 70) (.t 71)⟩,
      ⟨(some 73), some (69, false), .mv (.t 16)⟩,
      ⟨(some 74), some (69, false), .bin .mul (.c (.int .u64 4294967296)) (.t 73)⟩,
      ⟨(some 75), some (69, false), .mv (.t 13)⟩,
      ⟨(some 76), some (69, false), .bin .add (.t 74) (.t 75)⟩,
      ⟨(some 77), some (69, false), .bin .gtr (.t 72) (.t 76)⟩,
      ⟨(some 78), none, .pick (.t 69) (.c (.bool true)) (.t 77)⟩] [2, 8, 9, 10, 11, 13, 14, 15, 16, 78])
  (.cond (.t 78)
    .skip
    (.exit 0)))
  (.block 1
    (.seq (.rg [⟨(some 79), none, .mv (.t 15)⟩,
        ⟨(some 80), none, .bin .sub (.t 79) (.c (.int .u64 1))⟩,
        ⟨(some 15), none, .mv (.t 80)⟩] [2, 8, 9, 10, 11, 13, 14, 15, 16])
    (.seq (.rg [⟨(some 81), none, .mv (.t 16)⟩,
        ⟨(some 82), none, .mv (.t 9)⟩,
        ⟨(some 83), none, .bin .add (.t 81) (.t 82)⟩,
        ⟨(some 16), none, .mv (.t 83)⟩] [2, 8, 9, 10, 11, 13, 14, 15, 16])
    (.seq (.rg [⟨(some 84), none, .mv (.t 16)⟩,
        ⟨(some 85), none, .bin .geq (.t 84) (.c (.int .u64 4294967296))⟩] [2, 8, 9, 10, 11, 13, 14, 15, 16, 85])
    (.cond (.t 85)
      (.exit 0)
      .skip))))))
def fn74L0 : Cd := .loop [2, 8, 9, 10, 11, 13, 14, 15, 16] fn74B0
def fn74B1 : Cd :=
  (.seq (.seq (.rg [⟨(some 102), none, .mv (.t 18)⟩,
      ⟨(some 103), none, .bin .geq (.t 102) (.c (.int .u64 4294967296))⟩,
      ⟨(some 104), none, .mv (.t 103)⟩,
      ⟨(some 105), some (104, false), .mv (.t 18)⟩,
      ⟨(some 106), some (104, false), .mv (.t 10)⟩,
      ⟨(some 107), some (104, false), .bin .mul (.t 105) (.t 106)⟩,
      ⟨(some 108), some (104, false), .mv (.t 16)⟩,
      ⟨(some 109), some (104, false), .bin .mul (.c (.int .u64 4294967296)) (.t 108)⟩,
      ⟨(some 110), some (104, false), .mv (.t 14)⟩,
      ⟨(some 111), some (104, false), .bin .add (.t 109) (.t 110)⟩,
      ⟨(some 112), some (104, false), .bin .gtr (.t 107) (.t 111)⟩,
      ⟨(some 113), none, .pick (.t 104) (.c (.bool true)) (.t 112)⟩] [2, 8, 9, 10, 14, 15, 16, 17, 18, 113])
  (.cond (.t 113)
    .skip
    (.exit 2)))
  (.block 3
    (.seq (.rg [⟨(some 114), none, .mv (.t 18)⟩,
        ⟨(some 115), none, .bin .sub (.t 114) (.c (.int .u64 1))⟩,
        ⟨(some 18), none, .mv (.t 115)⟩] [2, 8, 9, 10, 14, 15, 16, 17, 18])
    (.seq (.rg [⟨(some 116), none, .mv (.t 16)⟩,
        ⟨(some 117), none, .mv (.t 9)⟩,
        ⟨(some 118), none, .bin .add (.t 116) (.t 117)⟩,
        ⟨(some 16), none, .mv (.t 118)⟩] [2, 8, 9, 10, 14, 15, 16, 17, 18])
    (.seq (.rg [⟨(some 119), none, .mv (.t 16)⟩,
        ⟨(some 120), none, .bin .geq (.t 119) (.c (.int .u64 4294967296))⟩] [2, 8, 9, 10, 14, 15, 16, 17, 18, 120])
    (.cond (.t 120)
      (.exit 2)
      .skip))))))
def fn74L1 : Cd := .loop [2, 8, 9, 10, 14, 15, 16, 17, 18] fn74B1
def fn74 : Vs.Fn := ⟨3,
  (.seq (.rg [⟨(some 6), none, .mv (.c (.int .u64 0))⟩,
      ⟨(some 7), none, .mv (.c (.int .u64 0))⟩] [0, 1, 2])
  (.seq (.seq (.rg [⟨(some 19), none, .mv (.t 2)⟩,
      ⟨(some 20), none, .bin .eql (.t 19) (.c (.int .u64 0))⟩] [0, 1, 2, 20])
  (.cond (.t 20)
    .bad
    .skip))
  (.seq (.seq (.rg [⟨(some 22), none, .mv (.t 2)⟩,
      ⟨(some 23), none, .mv (.t 0)⟩,
      ⟨(some 24), none, .bin .leq (.t 22) (.t 23)⟩] [0, 1, 2, 24])
  (.cond (.t 24)
    .bad
    .skip))
  (.seq (.seq (.rg [⟨(some 26), none, .mv (.t 0)⟩,
      ⟨(some 27), none, .bin .eql (.t 26) (.c (.int .u64 0))⟩] [0, 1, 2, 27])
  (.cond (.t 27)
    (.seq (.rg [⟨(some 28), none, .mv (.t 1)⟩,
        ⟨(some 29), none, .mv (.t 2)⟩,
        ⟨(some 30), none, .bin .quo (.t 28) (.t 29)⟩,
        ⟨(some 31), none, .mv (.t 1)⟩,
        ⟨(some 32), none, .mv (.t 2)⟩,
        ⟨(some 33), none, .bin .rem (.t 31) (.t 32)⟩,
        ⟨(some 6), none, .mv (.t 30)⟩,
        ⟨(some 7), none, .mv (.t 33)⟩] [6, 7])
    .ret)
    .skip))
  (.seq (.rg [⟨(some 34), none, .mv (.t 2)⟩,
      ⟨(some 35), none, .call 2 (.f 90) [(.t 34)]⟩,
      ⟨(some 36), none, .cvi .u64 (.t 35)⟩,
      ⟨(some 8), none, .mv (.t 36)⟩] [0, 1, 2, 8])
  (.seq (.rg [⟨(some 37), none, .mv (.t 2)⟩,
      ⟨(some 38), none, .mv (.t 8)⟩,
      ⟨(some 39), none, .bin .shl (.t 37) (.t 38)⟩,
      ⟨(some 2), none, .mv (.t 39)⟩] [0, 1, 2, 8])
  (.seq (.rg [⟨(some 40), none, .mv (.t 2)⟩,
      ⟨(some 41), none, .bin .shr (.t 40) (.c (.int .u64 32))⟩,
      ⟨(some 9), none, .mv (.t 41)⟩] [0, 1, 2, 8, 9])
  (.seq (.rg [⟨(some 42), none, .mv (.t 2)⟩,
      ⟨(some 43), none, .bin .and (.t 42) (.c (.int .u64 4294967295))⟩,
      ⟨(some 10), none, .mv (.t 43)⟩] [0, 1, 2, 8, 9, 10])
  (.seq (.rg [⟨(some 44), none, .mv (.t 0)⟩,
      ⟨(some 45), none, .mv (.t 8)⟩,
      ⟨(some 46), none, .bin .shl (.t 44) (.t 45)⟩,
      ⟨(some 47), none, .mv (.t 1)⟩,
      ⟨(some 48), none, .mv (.t 8)⟩,
      ⟨(some 49), none, .bin .sub (.c (.int .u64 64)) (.t 48)⟩,
      ⟨(some 50), none, .bin .shr (.t 47) (.t 49)⟩,
      ⟨(some 51), none, .bin .or (.t 46) (.t 50)⟩,
      ⟨(some 11), none, .mv (.t 51)⟩] [1, 2, 8, 9, 10, 11])
  (.seq (.rg [⟨(some 52), none, .mv (.t 1)⟩,
      ⟨(some 53), none, .mv (.t 8)⟩,
      ⟨(some 54), none, .bin .shl (.t 52) (.t 53)⟩,
      ⟨(some 12), none, .mv (.t 54)⟩] [2, 8, 9, 10, 11, 12])
  (.seq (.rg [⟨(some 55), none, .mv (.t 12)⟩,
      ⟨(some 56), none, .bin .shr (.t 55) (.c (.int .u64 32))⟩,
      ⟨(some 13), none, .mv (.t 56)⟩] [2, 8, 9, 10, 11, 12, 13])
  (.seq (.rg [⟨(some 57), none, .mv (.t 12)⟩,
      ⟨(some 58), none, .bin .and (.t 57) (.c (.int .u64 4294967295))⟩,
      ⟨(some 14), none, .mv (.t 58)⟩] [2, 8, 9, 10, 11, 13, 14])
  (.seq (.rg [⟨(some 59), none, .mv (.t 11)⟩,
      ⟨(some 60), none, .mv (.t 9)⟩,
      ⟨(some 61), none, .bin .quo (.t 59) (.t 60)⟩,
      ⟨(some 15), none, .mv (.t 61)⟩] [2, 8, 9, 10, 11, 13, 14, 15])
  (.seq (.rg [⟨(some 62), none, .mv (.t 11)⟩,
      ⟨(some 63), none, .mv (.t 15)⟩,
      ⟨(some 64), none, .mv (.t 9)⟩,
      ⟨(some 65), none, .bin .mul (.t 63) (.t 64)⟩,
      ⟨(some 66), none, .bin .sub (.t 62) (.t 65)⟩,
      ⟨(some 16), none, .mv (.t 66)⟩] [2, 8, 9, 10, 11, 13, 14, 15, 16])
  (.seq (.block 0
    fn74L0)
  (.seq (.rg [⟨(some 86), none, .mv (.t 11)⟩,
      ⟨(some 87), none, .bin .mul (.t 86) (.c (.int .u64 4294967296))⟩,
      ⟨(some 88), none, .mv (.t 13)⟩,
      ⟨(some 89), none, .bin .add (.t 87) (.t 88)⟩,
      ⟨(some 90), none, .mv (.t 15)⟩,
      ⟨(some 91), none, .mv (.t 2)⟩,
      ⟨(some 92), none, .bin .mul (.t 90) (.t 91)⟩,
      ⟨(some 93), none, .bin .sub (.t 89) (.t 92)⟩,
      ⟨(some 17), none, .mv (.t 93)⟩] [2, 8, 9, 10, 14, 15, 17])
  (.seq (.rg [⟨(some 94), none, .mv (.t 17)⟩,
      ⟨(some 95), none, .mv (.t 9)⟩,
      ⟨(some 96), none, .bin .quo (.t 94) (.t 95)⟩,
      ⟨(some 18), none, .mv (.t 96)⟩] [2, 8, 9, 10, 14, 15, 17, 18])
  (.seq (.rg [⟨(some 97), none, .mv (.t 17)⟩,
      ⟨(some 98), none, .mv (.t 18)⟩,
      ⟨(some 99), none, .mv (.t 9)⟩,
      ⟨(some 100), none, .bin .mul (.t 98) (.t 99)⟩,
      ⟨(some 101), none, .bin .sub (.t 97) (.t 100)⟩,
      ⟨(some 16), none, .mv (.t 101)⟩] [2, 8, 9, 10, 14, 15, 16, 17, 18])
  (.seq (.block 2
    fn74L1)
  (.seq (.rg [⟨(some 121), none, .mv (.t 15)⟩,
      ⟨(some 122), none, .bin .mul (.t 121) (.c (.int .u64 4294967296))⟩,
      ⟨(some 123), none, .mv (.t 18)⟩,
      ⟨(some 124), none, .bin .add (.t 122) (.t 123)⟩,
      ⟨(some 125), none, .mv (.t 17)⟩,
      ⟨(some 126), none, .bin .mul (.t 125) (.c (.int .u64 4294967296))⟩,
      ⟨(some 127), none, .mv (.t 14)⟩,
      ⟨(some 128), none, .bin .add (.t 126) (.t 127)⟩,
      ⟨(some 129), none, .mv (.t 18)⟩,
      ⟨(some 130), none, .mv (.t 2)⟩,
      ⟨(some 131), none, .bin .mul (.t 129) (.t 130)⟩,
      ⟨(some 132), none, .bin .sub (.t 128) (.t 131)⟩,
      ⟨(some 133), none, .mv (.t 8)⟩,
      ⟨(some 134), none, .bin .shr (.t 132) (.t 133)⟩,
      ⟨(some 6), none, .mv (.t 124)⟩,
      ⟨(some 7), none, .mv (.t 134)⟩] [6, 7])
  .ret)))))))))))))))))))),
  [.t 6, .t 7]⟩

/- slices.Index[[]string,string] -/
def an75 : Ann := [[0, 1], [0, 1, 7, 8], [0, 1, 7, 8], [0, 1, 7, 8, 9], [0, 1, 5, 7, 8], [0, 1, 5, 7, 8, 16], [4], [0, 1, 7, 8], [4]]
def fn75B0 : Cd :=
  (.seq (.rg [⟨(some 9), none, .bin .lss (.t 8) (.t 7)⟩] [0, 1, 7, 8, 9])
  (.seq (.cond (.t 9)
    .skip
    (.exit 0))
  (.seq (.block 1
    (.seq (.rg [⟨(some 10), none, .mv (.t 8)⟩,
        ⟨(some 5), none, .mv (.t 10)⟩] [0, 1, 5, 7, 8])
    (.seq (.rg [⟨(some 11), none, .mv (.t 1)⟩,
        ⟨(some 12), none, .mv (.t 0)⟩,
        ⟨(some 13), none, .mv (.t 5)⟩,
        ⟨(some 14), none, .iad 1 (.t 12) (.t 13)⟩,
        ⟨(some 15), none, .load false 1 (.t 14) false⟩,
        ⟨(some 16), none, .bin .eql (.t 11) (.t 15)⟩] [0, 1, 5, 7, 8, 16])
    (.cond (.t 16)
      (.seq (.rg [⟨(some 17), none, .mv (.t 5)⟩,
          ⟨(some 4), none, .mv (.t 17)⟩] [4])
      .ret)
      .skip))))
  (.rg [⟨(some 18), none, .bin .add (.t 8) (.c (.int .i64 1))⟩,
      ⟨(some 8), none, .mv (.t 18)⟩] [0, 1, 7, 8]))))
def fn75L0 : Cd := .loop [0, 1, 7, 8] fn75B0
def fn75 : Vs.Fn := ⟨2,
  (.seq (.rg [⟨(some 4), none, .mv (.c (.int .i64 0))⟩] [0, 1])
  (.seq (.seq (.rg [⟨(some 6), none, .mv (.t 0)⟩,
      ⟨(some 7), none, .len false (.t 6)⟩,
      ⟨(some 8), none, .mv (.c (.int .i64 0))⟩] [0, 1, 7, 8])
  (.block 0
    fn75L0))
  (.seq (.rg [⟨(some 4), none, .mv (.c (.int .i64 (-1)))⟩] [4])
  .ret))),
  [.t 4]⟩

/- slices.MinFunc[[]spillway/api.Num,spillway/api.Num] -/
def an76 : Ann := [[0, 1, 4], [0, 1, 4, 9], [0, 1, 4], [0, 1, 4, 5], [0, 1, 4, 5, 6], [0, 1, 4, 5, 6], [0, 1, 4, 5, 6, 17], [2], [0, 1, 4, 5, 6, 27], [0, 1, 4, 5, 6], [0, 1, 4, 5, 6], [4]]
def fn76B0 : Cd :=
  (.seq (.seq (.rg [⟨(some 14), none, .mv (.t 6)⟩,
      ⟨(some 15), none, .mv (.t 0)⟩,
      ⟨(some 16), none, .len false (.t 15)⟩,
      ⟨(some 17), none, .bin .lss (.t 14) (.t 16)⟩] [0, 1, 4, 5, 6, 17])
  (.cond (.t 17)
    .skip
    (.exit 0)))
  (.seq (.block 1
    (.seq (.rg [⟨(some 20), none, .mv (.t 1)⟩,
        ⟨(some 21), none, .mv (.t 0)⟩,
        ⟨(some 22), none, .mv (.t 6)⟩,
        ⟨(some 23), none, .iad 2 (.t 21) (.t 22)⟩,
        ⟨(some 24), none, .load true 2 (.t 23) false⟩,
        ⟨(some 25), none, .load true 2 (.t 5) false⟩,
        ⟨(some 26), none, .call 2 (.t 20) [(.t 24), (.t 25)]⟩,
        ⟨(some 27), none, .bin .lss (.t 26) (.c (.int .i64 0))⟩] [0, 1, 4, 5, 6, 27])
    (.cond (.t 27)
      (.rg [⟨(some 28), none, .mv (.t 0)⟩,
          ⟨(some 29), none, .mv (.t 6)⟩,
          ⟨(some 30), none, .iad 2 (.t 28) (.t 29)⟩,
          ⟨(some 31), none, .load true 2 (.t 30) false⟩,
          ⟨none, none, .store 2 (.t 5) (.t 31)⟩] [0, 1, 4, 5, 6])
      .skip)))
  (.rg [⟨(some 18), none, .mv (.t 6)⟩,
      ⟨(some 19), none, .bin .add (.t 18) (.c (.int .i64 1))⟩,
      ⟨(some 6), none, .mv (.t 19)⟩] [0, 1, 4, 5, 6])))
def fn76L0 : Cd := .loop [0, 1, 4, 5, 6] fn76B0
def fn76 : Vs.Fn := ⟨2,
  (.seq (.rg [⟨(some 4), none, .alloc [(.bool false), (.int .i64 0)]⟩] [0, 1, 4])
  (.seq (.seq (.rg [⟨(some 7), none, .mv (.t 0)⟩,
      ⟨(some 8), none, .len false (.t 7)⟩,
      ⟨(some 9), none, .bin .lss (.t 8) (.c (.int .i64 1))⟩] [0, 1, 4, 9])
  (.cond (.t 9)
    .bad
    .skip))
  (.seq (.rg [⟨(some 11), none, .mv (.t 0)⟩,
      ⟨(some 12), none, .iad 2 (.t 11) (.c (.int .i64 0))⟩,
      ⟨(some 13), none, .load true 2 (.t 12) false⟩,
      ⟨(some 5), none, .alloc [(.bool false), (.int .i64 0)]⟩,
      ⟨none, none, .store 2 (.t 5) (.t 13)⟩] [0, 1, 4, 5])
  (.seq (.seq (.rg [⟨(some 6), none, .mv (.c (.int .i64 1))⟩] [0, 1, 4, 5, 6])
  (.block 0
    fn76L0))
  (.seq (.rg [⟨(some 32), none, .load true 2 (.t 5) false⟩,
      ⟨none, none, .store 2 (.t 4) (.t 32)⟩] [4])
  .ret))))),
  [.cell 4 true 2]⟩

/- slices.MaxFunc[[]spillway/api.Num,spillway/api.Num] -/
def an77 : Ann := [[0, 1, 4], [0, 1, 4, 9], [0, 1, 4], [0, 1, 4, 5], [0, 1, 4, 5, 6], [0, 1, 4, 5, 6], [0, 1, 4, 5, 6, 17], [2], [0, 1, 4, 5, 6, 27], [0, 1, 4, 5, 6], [0, 1, 4, 5, 6], [4]]
def fn77B0 : Cd :=
  (.seq (.seq (.rg [⟨(some 14), none, .mv (.t 6)⟩,
      ⟨(some 15), none, .mv (.t 0)⟩,
      ⟨(some 16), none, .len false (.t 15)⟩,
      ⟨(some 17), none, .bin .lss (.t 14) (.t 16)⟩] [0, 1, 4, 5, 6, 17])
  (.cond (.t 17)
    .skip
    (.exit 0)))
  (.seq (.block 1
    (.seq (.rg [⟨(some 20), none, .mv (.t 1)⟩,
        ⟨(some 21), none, .mv (.t 0)⟩,
        ⟨(some 22), none, .mv (.t 6)⟩,
        ⟨(some 23), none, .iad 2 (.t 21) (.t 22)⟩,
        ⟨(some 24), none, .load true 2 (.t 23) false⟩,
        ⟨(some 25), none, .load true 2 (.t 5) false⟩,
        ⟨(some 26), none, .call 2 (.t 20) [(.t 24), (.t 25)]⟩,
        ⟨(some 27), none, .bin .gtr (.t 26) (.c (.int .i64 0))⟩] [0, 1, 4, 5, 6, 27])
    (.cond (.t 27)
      (.rg [⟨(some 28), none, .mv (.t 0)⟩,
          ⟨(some 29), none, .mv (.t 6)⟩,
          ⟨(some 30), none, .iad 2 (.t 28) (.t 29)⟩,
          ⟨(some 31), none, .load true 2 (.t 30) false⟩,
          ⟨none, none, .store 2 (.t 5) (.t 31)⟩] [0, 1, 4, 5, 6])
      .skip)))
  (.rg [⟨(some 18), none, .mv (.t 6)⟩,
      ⟨(some 19), none, .bin .add (.t 18) (.c (.int .i64 1))⟩,
      ⟨(some 6), none, .mv (.t 19)⟩] [0, 1, 4, 5, 6])))
def fn77L0 : Cd := .loop [0, 1, 4, 5, 6] fn77B0
def fn77 : Vs.Fn := ⟨2,
  (.seq (.rg [⟨(some 4), none, .alloc [(.bool false), (.int .i64 0)]⟩] [0, 1, 4])
  (.seq (.seq (.rg [⟨(some 7), none, .mv (.t 0)⟩,
      ⟨(some 8), none, .len false (.t 7)⟩,
      ⟨(some 9), none, .bin .lss (.t 8) (.c (.int .i64 1))⟩] [0, 1, 4, 9])
  (.cond (.t 9)
    .bad
    .skip))
  (.seq (.rg [⟨(some 11), none, .mv (.t 0)⟩,
      ⟨(some 12), none, .iad 2 (.t 11) (.c (.int .i64 0))⟩,
      ⟨(some 13), none, .load true 2 (.t 12) false⟩,
      ⟨(some 5), none, .alloc [(.bool false), (.int .i64 0)]⟩,
      ⟨none, none, .store 2 (.t 5) (.t 13)⟩] [0, 1, 4, 5])
  (.seq (.seq (.rg [⟨(some 6), none, .mv (.c (.int .i64 1))⟩] [0, 1, 4, 5, 6])
  (.block 0
    fn77L0))
  (.seq (.rg [⟨(some 32), none, .load true 2 (.t 5) false⟩,
      ⟨none, none, .store 2 (.t 4) (.t 32)⟩] [4])
  .ret))))),
  [.cell 4 true 2]⟩

/- (spillway/fix.wide).add -/
def an78 : Ann := [[2, 3, 4], [2], [2, 3, 4, 5, 6], [2], [4, 5, 7], [4]]
def fn78 : Vs.Fn := ⟨2,
  (.seq (.rg [⟨(some 2), none, .box 2 (.t 0)⟩,
      ⟨(some 3), none, .box 2 (.t 1)⟩,
      ⟨(some 4), none, .alloc [(.int .u64 0), (.int .u64 0)]⟩] [2, 3, 4])
  (.seq (.rg [⟨(some 10), none, .fad 1 (.t 2)⟩,
      ⟨(some 11), none, .load false 1 (.t 10) false⟩,
      ⟨(some 12), none, .fad 1 (.t 3)⟩,
      ⟨(some 13), none, .load false 1 (.t 12) false⟩,
      ⟨(some 14), none, .pr .add64 [(.t 11), (.t 13), (.c (.int .u64 0))]⟩,
      ⟨(some 9), none, .mv (.t 14)⟩,
      ⟨(some 15), none, .ext (.t 9) 0⟩,
      ⟨(some 16), none, .ext (.t 9) 1⟩,
      ⟨(some 5), none, .mv (.t 15)⟩,
      ⟨(some 6), none, .mv (.t 16)⟩] [2, 3, 4, 5, 6])
  (.seq (.rg [⟨(some 18), none, .fad 0 (.t 2)⟩,
      ⟨(some 19), none, .load false 1 (.t 18) false⟩,
      ⟨(some 20), none, .fad 0 (.t 3)⟩,
      ⟨(some 21), none, .load false 1 (.t 20) false⟩,
      ⟨(some 22), none, .mv (.t 6)⟩,
      ⟨(some 23), none, .pr .add64 [(.t 19), (.t 21), (.t 22)]⟩,
      ⟨(some 17), none, .mv (.t 23)⟩,
      ⟨(some 24), none, .ext (.t 17) 0⟩,
      ⟨(some 25), none, .ext (.t 17) 1⟩,
      ⟨(some 7), none, .mv (.t 24)⟩,
      ⟨(some 8), none, .mv (.t 25)⟩] [4, 5, 7])
  (.seq (.rg [⟨(some 26), none, .mv (.t 7)⟩,
      ⟨(some 27), none, .mv (.t 5)⟩,
      ⟨(some 28), none, .build [(.int .u64 0), (.int .u64 0)] [(0, 1, (.t 26)), (1, 1, (.t 27))]⟩,
      ⟨none, none, .store 2 (.t 4) (.t 28)⟩] [4])
  .ret)))),
  [.cell 4 true 2]⟩

/- spillway/fix.of -/
def an79 : Ann := [[0, 2], [2]]
def fn79 : Vs.Fn := ⟨1,
  (.seq (.rg [⟨(some 2), none, .alloc [(.int .u64 0), (.int .u64 0)]⟩] [0, 2])
  (.seq (.rg [⟨(some 3), none, .mv (.t 0)⟩,
      ⟨(some 4), none, .bin .shr (.t 3) (.c (.int .u64 63))⟩,
      ⟨(some 5), none, .cvi .u64 (.t 4)⟩,
      ⟨(some 6), none, .mv (.t 0)⟩,
      ⟨(some 7), none, .cvi .u64 (.t 6)⟩,
      ⟨(some 8), none, .build [(.int .u64 0), (.int .u64 0)] [(0, 1, (.t 5)), (1, 1, (.t 7))]⟩,
      ⟨none, none, .store 2 (.t 2) (.t 8)⟩] [2])
  .ret)),
  [.cell 2 true 2]⟩

/- (spillway/fix.wide).num -/
def an80 : Ann := [[1, 2], [1, 2, 3], [2], [2, 3, 10], [2], [2], [2], [2]]
def fn80 : Vs.Fn := ⟨1,
  (.seq (.rg [⟨(some 1), none, .box 2 (.t 0)⟩,
      ⟨(some 2), none, .alloc [(.bool false), (.int .i64 0)]⟩] [1, 2])
  (.seq (.rg [⟨(some 4), none, .fad 1 (.t 1)⟩,
      ⟨(some 5), none, .load false 1 (.t 4) false⟩,
      ⟨(some 6), none, .cvi .i64 (.t 5)⟩,
      ⟨(some 3), none, .mv (.t 6)⟩] [1, 2, 3])
  (.seq (.seq (.rg [⟨(some 7), none, .mv (.t 3)⟩,
      ⟨(some 8), none, .call 2 (.f 79) [(.t 7)]⟩,
      ⟨(some 9), none, .load true 2 (.t 1) false⟩,
      ⟨(some 10), none, .eqs true [1, 1] (.t 8) (.t 9)⟩] [2, 3, 10])
  (.cond (.t 10)
    (.seq (.rg [⟨(some 11), none, .call 2 (.f 73) []⟩,
        ⟨none, none, .store 2 (.t 2) (.t 11)⟩] [2])
    .ret)
    .skip))
  (.seq (.rg [⟨(some 12), none, .mv (.t 3)⟩,
      ⟨(some 13), none, .call 2 (.f 92) [(.t 12)]⟩,
      ⟨none, none, .store 2 (.t 2) (.t 13)⟩] [2])
  .ret)))),
  [.cell 2 true 2]⟩

/- cmp.isNaN[int64] -/
def an81 : Ann := [[0], [2]]
def fn81 : Vs.Fn := ⟨1,
  (.seq (.rg [⟨(some 2), none, .mv (.c (.bool false))⟩] [0])
  (.seq (.rg [⟨(some 3), none, .mv (.t 0)⟩,
      ⟨(some 4), none, .mv (.t 0)⟩,
      ⟨(some 5), none, .bin .neq (.t 3) (.t 4)⟩,
      ⟨(some 2), none, .mv (.t 5)⟩] [2])
  .ret)),
  [.t 2]⟩

/- slices.stableCmpFunc[spillway/api.Row] -/
def an82 : Ann := [[0, 1, 2, 6], [0, 1, 2, 6, 7, 8], [0, 1, 2, 6, 7, 8], [0, 1, 2, 6, 7, 8, 13], [0], [0, 1, 2, 6, 8], [0, 1, 2, 6, 7, 8], [0, 1, 2, 6, 7, 8], [0], [0, 1, 2, 6], [0, 1, 2, 6], [0, 1, 2, 6, 30], [0, 1, 2, 6, 7, 8], [0, 1, 2, 6, 7, 8], [0, 1, 2, 6, 7, 8, 35], [0], [0, 1, 2, 6, 8], [0, 1, 2, 6, 7, 8], [0, 1, 2, 6, 7, 8], [0, 1, 2, 6, 7, 9], [0, 1, 2, 6, 7, 9, 54], [0], [0, 1, 2, 6], [0, 1, 2, 6]]
def fn82B0 : Cd :=
  (.seq (.seq (.rg [⟨(some 11), none, .mv (.t 8)⟩,
      ⟨(some 12), none, .mv (.t 1)⟩,
      ⟨(some 13), none, .bin .leq (.t 11) (.t 12)⟩] [0, 1, 2, 6, 7, 8, 13])
  (.cond (.t 13)
    .skip
    (.exit 0)))
  (.block 1
    (.seq (.rg [⟨(some 14), none, .mv (.t 0)⟩,
        ⟨(some 15), none, .mv (.t 7)⟩,
        ⟨(some 16), none, .mv (.t 8)⟩,
        ⟨(some 17), none, .mv (.t 2)⟩,
        ⟨(some 18), none, .call 0 (.f 93) [(.t 14), (.t 15), (.t 16), (.t 17)]⟩] [0, 1, 2, 6, 8])
    (.seq (.rg [⟨(some 19), none, .mv (.t 8)⟩,
        ⟨(some 7), none, .mv (.t 19)⟩] [0, 1, 2, 6, 7, 8])
    (.rg [⟨(some 20), none, .mv (.t 8)⟩,
        ⟨(some 21), none, .mv (.t 6)⟩,
        ⟨(some 22), none, .bin .add (.t 20) (.t 21)⟩,
        ⟨(some 8), none, .mv (.t 22)⟩] [0, 1, 2, 6, 7, 8])))))
def fn82L0 : Cd := .loop [0, 1, 2, 6, 7, 8] fn82B0
def fn82B1 : Cd :=
  (.seq (.seq (.rg [⟨(some 33), none, .mv (.t 8)⟩,
      ⟨(some 34), none, .mv (.t 1)⟩,
      ⟨(some 35), none, .bin .leq (.t 33) (.t 34)⟩] [0, 1, 2, 6, 7, 8, 35])
  (.cond (.t 35)
    .skip
    (.exit 4)))
  (.block 5
    (.seq (.rg [⟨(some 36), none, .mv (.t 0)⟩,
        ⟨(some 37), none, .mv (.t 7)⟩,
        ⟨(some 38), none, .mv (.t 7)⟩,
        ⟨(some 39), none, .mv (.t 6)⟩,
        ⟨(some 40), none, .bin .add (.t 38) (.t 39)⟩,
        ⟨(some 41), none, .mv (.t 8)⟩,
        ⟨(some 42), none, .mv (.t 2)⟩,
        ⟨(some 43), none, .call 0 (.f 94) [(.t 36), (.t 37), (.t 40), (.t 41), (.t 42)]⟩] [0, 1, 2, 6, 8])
    (.seq (.rg [⟨(some 44), none, .mv (.t 8)⟩,
        ⟨(some 7), none, .mv (.t 44)⟩] [0, 1, 2, 6, 7, 8])
    (.rg [⟨(some 45), none, .mv (.t 8)⟩,
        ⟨(some 46), none, .mv (.t 6)⟩,
        ⟨(some 47), none, .bin .mul (.c (.int .i64 2)) (.t 46)⟩,
        ⟨(some 48), none, .bin .add (.t 45) (.t 47)⟩,
        ⟨(some 8), none, .mv (.t 48)⟩] [0, 1, 2, 6, 7, 8])))))
def fn82L1 : Cd := .loop [0, 1, 2, 6, 7, 8] fn82B1
def fn82B2 : Cd :=
  (.seq (.seq (.rg [⟨(some 28), none, .mv (.t 6)⟩,
      ⟨(some 29), none, .mv (.t 1)⟩,
      ⟨(some 30), none, .bin .lss (.t 28) (.t 29)⟩] [0, 1, 2, 6, 30])
  (.cond (.t 30)
    .skip
    (.exit 2)))
  (.block 3
    (.seq (.rg [⟨(some 31), none, .mv (.t 6)⟩,
        ⟨(some 32), none, .bin .mul (.c (.int .i64 2)) (.t 31)⟩,
        ⟨(some 7), none, .mv (.c (.int .i64 0))⟩,
        ⟨(some 8), none, .mv (.t 32)⟩] [0, 1, 2, 6, 7, 8])
    (.seq (.block 4
      fn82L1)
    (.seq (.seq (.rg [⟨(some 49), none, .mv (.t 7)⟩,
        ⟨(some 50), none, .mv (.t 6)⟩,
        ⟨(some 51), none, .bin .add (.t 49) (.t 50)⟩,
        ⟨(some 9), none, .mv (.t 51)⟩] [0, 1, 2, 6, 7, 9])
    (.seq (.rg [⟨(some 52), none, .mv (.t 9)⟩,
        ⟨(some 53), none, .mv (.t 1)⟩,
        ⟨(some 54), none, .bin .lss (.t 52) (.t 53)⟩] [0, 1, 2, 6, 7, 9, 54])
    (.cond (.t 54)
      (.rg [⟨(some 55), none, .mv (.t 0)⟩,
          ⟨(some 56), none, .mv (.t 7)⟩,
          ⟨(some 57), none, .mv (.t 9)⟩,
          ⟨(some 58), none, .mv (.t 1)⟩,
          ⟨(some 59), none, .mv (.t 2)⟩,
          ⟨(some 60), none, .call 0 (.f 94) [(.t 55), (.t 56), (.t 57), (.t 58), (.t 59)]⟩] [0, 1, 2, 6])
      .skip)))
    (.rg [⟨(some 61), none, .mv (.t 6)⟩,
        ⟨(some 62), none, .bin .mul (.t 61) (.c (.int .i64 2))⟩,
        ⟨(some 6), none, .mv (.t 62)⟩] [0, 1, 2, 6]))))))
def fn82L2 : Cd := .loop [0, 1, 2, 6] fn82B2
def fn82 : Vs.Fn := ⟨3,
  (.seq (.rg [⟨(some 6), none, .mv (.c (.int .i64 20))⟩] [0, 1, 2, 6])
  (.seq (.rg [⟨(some 10), none, .mv (.t 6)⟩,
      ⟨(some 7), none, .mv (.c (.int .i64 0))⟩,
      ⟨(some 8), none, .mv (.t 10)⟩] [0, 1, 2, 6, 7, 8])
  (.seq (.block 0
    fn82L0)
  (.seq (.rg [⟨(some 23), none, .mv (.t 0)⟩,
      ⟨(some 24), none, .mv (.t 7)⟩,
      ⟨(some 25), none, .mv (.t 1)⟩,
      ⟨(some 26), none, .mv (.t 2)⟩,
      ⟨(some 27), none, .call 0 (.f 93) [(.t 23), (.t 24), (.t 25), (.t 26)]⟩] [0, 1, 2, 6])
  (.block 2
    fn82L2))))),
  []⟩

/- slices.IndexFunc[[]spillway/api.Row,spillway/api.Row] -/
def an83 : Ann := [[0, 1], [0, 1, 7, 8], [0, 1, 7, 8], [0, 1, 7, 8, 9], [0, 1, 5, 7, 8], [2], [0, 1, 5, 7, 8, 16], [4], [0, 1, 7, 8], [4]]
def fn83B0 : Cd :=
  (.seq (.rg [⟨(some 9), none, .bin .lss (.t 8) (.t 7)⟩] [0, 1, 7, 8, 9])
  (.seq (.cond (.t 9)
    .skip
    (.exit 0))
  (.seq (.block 1
    (.seq (.rg [⟨(some 10), none, .mv (.t 8)⟩,
        ⟨(some 5), none, .mv (.t 10)⟩] [0, 1, 5, 7, 8])
    (.seq (.rg [⟨(some 11), none, .mv (.t 1)⟩,
        ⟨(some 12), none, .mv (.t 0)⟩,
        ⟨(some 13), none, .mv (.t 5)⟩,
        ⟨(some 14), none, .iad 3 (.t 12) (.t 13)⟩,
        ⟨(some 15), none, .load true 3 (.t 14) false⟩,
        ⟨(some 16), none, .call 2 (.t 11) [(.t 15)]⟩] [0, 1, 5, 7, 8, 16])
    (.cond (.t 16)
      (.seq (.rg [⟨(some 17), none, .mv (.t 5)⟩,
          ⟨(some 4), none, .mv (.t 17)⟩] [4])
      .ret)
      .skip))))
  (.rg [⟨(some 18), none, .bin .add (.t 8) (.c (.int .i64 1))⟩,
      ⟨(some 8), none, .mv (.t 18)⟩] [0, 1, 7, 8]))))
def fn83L0 : Cd := .loop [0, 1, 7, 8] fn83B0
def fn83 : Vs.Fn := ⟨2,
  (.seq (.rg [⟨(some 4), none, .mv (.c (.int .i64 0))⟩] [0, 1])
  (.seq (.seq (.rg [⟨(some 6), none, .mv (.t 0)⟩,
      ⟨(some 7), none, .len false (.t 6)⟩,
      ⟨(some 8), none, .mv (.c (.int .i64 0))⟩] [0, 1, 7, 8])
  (.block 0
    fn83L0))
  (.seq (.rg [⟨(some 4), none, .mv (.c (.int .i64 (-1)))⟩] [4])
  .ret))),
  [.t 4]⟩

/- slices.DeleteFunc[[]spillway/api.Pair,spillway/api.Pair] -/
def an84 : Ann := [[0, 1], [2], [0, 1, 5], [0, 1, 5, 12], [4], [0, 1, 5, 6], [0, 1, 5, 6], [0, 1, 5, 6, 19], [0, 1, 5, 6, 7], [2], [0, 1, 5, 6, 7, 29], [0, 1, 5, 6], [0, 1, 5, 6], [0, 1, 5, 6], [0, 5], [4]]
def fn84B0 : Cd :=
  (.seq (.seq (.rg [⟨(some 16), none, .mv (.t 6)⟩,
      ⟨(some 17), none, .mv (.t 0)⟩,
      ⟨(some 18), none, .len false (.t 17)⟩,
      ⟨(some 19), none, .bin .lss (.t 16) (.t 18)⟩] [0, 1, 5, 6, 19])
  (.cond (.t 19)
    .skip
    (.exit 0)))
  (.seq (.block 1
    (.seq (.rg [⟨(some 22), none, .mv (.t 0)⟩,
        ⟨(some 23), none, .mv (.t 6)⟩,
        ⟨(some 24), none, .iad 2 (.t 22) (.t 23)⟩,
        ⟨(some 25), none, .load true 2 (.t 24) false⟩,
        ⟨(some 7), none, .alloc [(.str ⟨#[]⟩), (.str ⟨#[]⟩)]⟩,
        ⟨none, none, .store 2 (.t 7) (.t 25)⟩] [0, 1, 5, 6, 7])
    (.seq (.rg [⟨(some 26), none, .mv (.t 1)⟩,
        ⟨(some 27), none, .load true 2 (.t 7) false⟩,
        ⟨(some 28), none, .call 2 (.t 26) [(.t 27)]⟩,
        ⟨(some 29), none, .un .not (.t 28)⟩] [0, 1, 5, 6, 7, 29])
    (.cond (.t 29)
      (.seq (.rg [⟨(some 30), none, .mv (.t 0)⟩,
          ⟨(some 31), none, .mv (.t 5)⟩,
          ⟨(some 32), none, .load true 2 (.t 7) false⟩,
          ⟨(some 33), none, .iad 2 (.t 30) (.t 31)⟩,
          ⟨none, none, .store 2 (.t 33) (.t 32)⟩] [0, 1, 5, 6])
      (.rg [⟨(some 34), none, .mv (.t 5)⟩,
          ⟨(some 35), none, .bin .add (.t 34) (.c (.int .i64 1))⟩,
          ⟨(some 5), none, .mv (.t 35)⟩] [0, 1, 5, 6]))
      .skip))))
  (.rg [⟨(some 20), none, .mv (.t 6)⟩,
      ⟨(some 21), none, .bin .add (.t 20) (.c (.int .i64 1))⟩,
      ⟨(some 6), none, .mv (.t 21)⟩] [0, 1, 5, 6])))
def fn84L0 : Cd := .loop [0, 1, 5, 6] fn84B0
def fn84 : Vs.Fn := ⟨2,
  (.seq (.rg [⟨(some 4), none, .mv (.c (.slice none 0 0))⟩] [0, 1])
  (.seq (.rg [⟨(some 8), none, .mv (.t 0)⟩,
      ⟨(some 9), none, .mv (.t 1)⟩,
      ⟨(some 10), none, .call 2 (.f 95) [(.t 8), (.t 9)]⟩,
      ⟨(some 5), none, .mv (.t 10)⟩] [0, 1, 5])
  (.seq (.seq (.rg [⟨(some 11), none, .mv (.t 5)⟩,
      ⟨(some 12), none, .bin .eql (.t 11) (.c (.int .i64 (-1)))⟩] [0, 1, 5, 12])
  (.cond (.t 12)
    (.seq (.rg [⟨(some 13), none, .mv (.t 0)⟩,
        ⟨(some 4), none, .mv (.t 13)⟩] [4])
    .ret)
    .skip))
  (.seq (.seq (.rg [⟨(some 14), none, .mv (.t 5)⟩,
      ⟨(some 15), none, .bin .add (.t 14) (.c (.int .i64 1))⟩,
      ⟨(some 6), none, .mv (.t 15)⟩] [0, 1, 5, 6])
  (.block 0
    fn84L0))
  (.seq (.rg [⟨(some 36), none, .mv (.t 0)⟩,
      ⟨(some 37), none, .mv (.t 5)⟩,
      ⟨(some 38), none, .slsl 2 (.t 36) (some (.t 37)) none none⟩,
      ⟨none, none, .clear 2 [(.str ⟨#[]⟩), (.str ⟨#[]⟩)] (.t 38)⟩] [0, 5])
  (.seq (.rg [⟨(some 39), none, .mv (.t 0)⟩,
      ⟨(some 40), none, .mv (.t 5)⟩,
      ⟨(some 41), none, .slsl 2 (.t 39) none (some (.t 40)) none⟩,
      ⟨(some 4), none, .mv (.t 41)⟩] [4])
  .ret)))))),
  [.t 4]⟩

/- slices.Clone[[]spillway/api.Pair,spillway/api.Pair] -/
def an85 : Ann := [[0], [0, 4], [2], [2]]
def fn85 : Vs.Fn := ⟨1,
  (.seq (.rg [⟨(some 2), none, .mv (.c (.slice none 0 0))⟩] [0])
  (.seq (.seq (.rg [⟨(some 3), none, .mv (.t 0)⟩,
      ⟨(some 4), none, .eqn 1 false (.t 3)⟩] [0, 4])
  (.cond (.t 4)
    (.seq (.rg [⟨(some 2), none, .mv (.c (.slice none 0 0))⟩] [2])
    .ret)
    .skip))
  (.seq (.rg [⟨(some 5), none, .bslice 0 2 [(.str ⟨#[]⟩), (.str ⟨#[]⟩)] []⟩,
      ⟨(some 6), none, .mv (.t 0)⟩,
      ⟨(some 7), none, .app 2 32 (.t 5) (.t 6)⟩,
      ⟨(some 2), none, .mv (.t 7)⟩] [2])
  .ret))),
  [.t 2]⟩

/- spillway/label.those$1 -/
def an86 : Ann := [[1, 2], [2], [3]]
def fn86 : Vs.Fn := ⟨2,
  (.seq (.rg [⟨(some 2), none, .box 2 (.t 0)⟩,
      ⟨(some 3), none, .mv (.c (.bool false))⟩] [1, 2])
  (.seq (.rg [⟨(some 4), none, .load false 1 (.t 1) false⟩,
      ⟨(some 5), none, .fad 0 (.t 2)⟩,
      ⟨(some 6), none, .load false 1 (.t 5) false⟩,
      ⟨(some 7), none, .call 2 (.t 4) [(.t 6)]⟩,
      ⟨(some 8), none, .un .not (.t 7)⟩,
      ⟨(some 3), none, .mv (.t 8)⟩] [3])
  .ret)),
  [.t 3]⟩

/- slices.rotateRight[spillway/vector.keyed] -/
def an88 : Ann := [[2], []]
def fn88 : Vs.Fn := ⟨2,
  (.rg [⟨(some 4), none, .mv (.t 0)⟩,
      ⟨(some 5), none, .mv (.t 0)⟩,
      ⟨(some 6), none, .len false (.t 5)⟩,
      ⟨(some 7), none, .mv (.t 1)⟩,
      ⟨(some 8), none, .bin .sub (.t 6) (.t 7)⟩,
      ⟨(some 9), none, .call 2 (.f 96) [(.t 4), (.t 8)]⟩] []),
  []⟩

/- internal/bytealg.CompareString -/
def an89 : Ann := [[0, 1], [2], [4]]
def fn89 : Vs.Fn := ⟨2,
  (.seq (.rg [⟨(some 4), none, .mv (.c (.int .i64 0))⟩] [0, 1])
  (.seq (.rg [⟨(some 5), none, .mv (.t 0)⟩,
      ⟨(some 6), none, .mv (.t 1)⟩,
      ⟨(some 7), none, .pr .cmps [(.t 5), (.t 6)]⟩,
      ⟨(some 4), none, .mv (.t 7)⟩] [4])
  .ret)),
  [.t 4]⟩

/- math/bits.LeadingZeros64 -/
def an90 : Ann := [[0], [2], [2]]
def fn90 : Vs.Fn := ⟨1,
  (.seq (.rg [⟨(some 2), none, .mv (.c (.int .i64 0))⟩] [0])
  (.seq (.rg [⟨(some 3), none, .mv (.t 0)⟩,
      ⟨(some 4), none, .call 2 (.f 98) [(.t 3)]⟩,
      ⟨(some 5), none, .bin .sub (.c (.int .i64 64)) (.t 4)⟩,
      ⟨(some 2), none, .mv (.t 5)⟩] [2])
  .ret)),
  [.t 2]⟩

/- spillway/fix.held -/
def an92 : Ann := [[0, 2], [0, 2, 4], [2], [2], [2]]
def fn92 : Vs.Fn := ⟨1,
  (.seq (.rg [⟨(some 2), none, .alloc [(.bool false), (.int .i64 0)]⟩] [0, 2])
  (.seq (.seq (.rg [⟨(some 3), none, .mv (.t 0)⟩,
      ⟨(some 4), none, .bin .eql (.t 3) (.c (.int .i64 (-9223372036854775808)))⟩] [0, 2, 4])
  (.cond (.t 4)
    (.seq (.rg [⟨(some 5), none, .call 2 (.f 73) []⟩,
        ⟨none, none, .store 2 (.t 2) (.t 5)⟩] [2])
    .ret)
    .skip))
  (.seq (.rg [⟨(some 6), none, .mv (.t 0)⟩,
      ⟨(some 7), none, .build [(.bool false), (.int .i64 0)] [(1, 1, (.t 6))]⟩,
      ⟨none, none, .store 2 (.t 2) (.t 7)⟩] [2])
  .ret))),
  [.cell 2 true 2]⟩

/- slices.insertionSortCmpFunc[spillway/api.Row] -/
def an93 : Ann := [[0, 1, 2, 3, 8], [0, 1, 2, 3, 8], [0, 1, 2, 3, 8, 14], [0, 1, 2, 3, 8, 9], [0, 1, 2, 3, 8, 9], [2], [0, 1, 2, 3, 8, 9, 34], [0, 1, 2, 3, 8, 9], [0, 1, 2, 3, 8, 9], [0, 1, 2, 3, 8]]
def fn93B0 : Cd :=
  (.seq (.seq (.rg [⟨(some 18), none, .mv (.t 9)⟩,
      ⟨(some 19), none, .mv (.t 1)⟩,
      ⟨(some 20), none, .bin .gtr (.t 18) (.t 19)⟩,
      ⟨(some 21), none, .mv (.t 20)⟩,
      ⟨(some 22), some (21, true), .mv (.t 3)⟩,
      ⟨(some 23), some (21, true), .mv (.t 0)⟩,
      ⟨(some 24), some (21, true), .mv (.t 9)⟩,
      ⟨(some 25), some (21, true), .iad 3 (.t 23) (.t 24)⟩,
      ⟨(some 26), some (21, true), .load true 3 (.t 25) false⟩,
      ⟨(some 27), some (21, true), .mv (.t 0)⟩,
      ⟨(some 28), some (21, true), .mv (.t 9)⟩,
      ⟨(some 29), some (21, true), .bin .sub (.t 28) (.c (.int .i64 1))⟩,
      ⟨(some 30), some (21, true), .iad 3 (.t 27) (.t 29)⟩,
      ⟨(some 31), some (21, true), .load true 3 (.t 30) false⟩,
      ⟨(some 32), some (21, true), .call 2 (.t 22) [(.t 26), (.t 31)]⟩,
      ⟨(some 33), some (21, true), .bin .lss (.t 32) (.c (.int .i64 0))⟩,
      ⟨(some 34), none, .pick (.t 21) (.t 33) (.c (.bool false))⟩] [0, 1, 2, 3, 8, 9, 34])
  (.cond (.t 34)
    .skip
    (.exit 2)))
  (.seq (.block 3
    (.rg [⟨(some 37), none, .mv (.t 0)⟩,
        ⟨(some 38), none, .mv (.t 9)⟩,
        ⟨(some 39), none, .mv (.t 0)⟩,
        ⟨(some 40), none, .mv (.t 9)⟩,
        ⟨(some 41), none, .bin .sub (.t 40) (.c (.int .i64 1))⟩,
        ⟨(some 42), none, .mv (.t 0)⟩,
        ⟨(some 43), none, .mv (.t 9)⟩,
        ⟨(some 44), none, .bin .sub (.t 43) (.c (.int .i64 1))⟩,
        ⟨(some 45), none, .iad 3 (.t 42) (.t 44)⟩,
        ⟨(some 46), none, .load true 3 (.t 45) false⟩,
        ⟨(some 47), none, .mv (.t 0)⟩,
        ⟨(some 48), none, .mv (.t 9)⟩,
        ⟨(some 49), none, .iad 3 (.t 47) (.t 48)⟩,
        ⟨(some 50), none, .load true 3 (.t 49) false⟩,
        ⟨(some 51), none, .iad 3 (.t 37) (.t 38)⟩,
        ⟨none, none, .store 3 (.t 51) (.t 46)⟩,
        ⟨(some 52), none, .iad 3 (.t 39) (.t 41)⟩,
        ⟨none, none, .store 3 (.t 52) (.t 50)⟩] [0, 1, 2, 3, 8, 9]))
  (.rg [⟨(some 35), none, .mv (.t 9)⟩,
      ⟨(some 36), none, .bin .sub (.t 35) (.c (.int .i64 1))⟩,
      ⟨(some 9), none, .mv (.t 36)⟩] [0, 1, 2, 3, 8, 9])))
def fn93L0 : Cd := .loop [0, 1, 2, 3, 8, 9] fn93B0
def fn93B1 : Cd :=
  (.seq (.seq (.rg [⟨(some 12), none, .mv (.t 8)⟩,
      ⟨(some 13), none, .mv (.t 2)⟩,
      ⟨(some 14), none, .bin .lss (.t 12) (.t 13)⟩] [0, 1, 2, 3, 8, 14])
  (.cond (.t 14)
    .skip
    (.exit 0)))
  (.seq (.block 1
    (.seq (.rg [⟨(some 17), none, .mv (.t 8)⟩,
        ⟨(some 9), none, .mv (.t 17)⟩] [0, 1, 2, 3, 8, 9])
    (.block 2
      fn93L0)))
  (.rg [⟨(some 15), none, .mv (.t 8)⟩,
      ⟨(some 16), none, .bin .add (.t 15) (.c (.int .i64 1))⟩,
      ⟨(some 8), none, .mv (.t 16)⟩] [0, 1, 2, 3, 8])))
def fn93L1 : Cd := .loop [0, 1, 2, 3, 8] fn93B1
def fn93 : Vs.Fn := ⟨4,
  (.seq (.rg [⟨(some 10), none, .mv (.t 1)⟩,
      ⟨(some 11), none, .bin .add (.t 10) (.c (.int .i64 1))⟩,
      ⟨(some 8), none, .mv (.t 11)⟩] [0, 1, 2, 3, 8])
  (.block 0
    fn93L1)),
  []⟩

/- slices.symMergeCmpFunc[spillway/api.Row] -/
def an94 : Ann := [[0, 1, 2, 3, 4, 28], [0, 1, 3, 4, 10], [0, 1, 4, 10, 11], [0, 1, 4, 10, 11], [0, 1, 4, 10, 11, 33], [0, 1, 4, 10, 11, 12], [2], [0, 1, 4, 10, 11, 12, 50], [0, 1, 4, 10, 11], [0, 1, 4, 10, 11], [0, 10, 13], [0, 10, 13], [0, 10, 13, 58], [0, 10, 13], [0, 10, 13], [0, 1, 2, 3, 4, 80], [0, 2, 4, 14], [0, 2, 4, 14, 15], [0, 2, 4, 14, 15], [0, 2, 4, 14, 15, 85], [0, 2, 4, 14, 15, 16], [2], [0, 2, 4, 14, 15, 16, 103], [0, 2, 4, 14, 15], [0, 2, 4, 14, 15], [0, 14, 17], [0, 14, 17], [0, 14, 17, 110], [0, 14, 17], [0, 14, 17], [0, 1, 2, 3, 4, 18], [0, 1, 2, 3, 4, 18, 19], [0, 1, 2, 3, 4, 18, 19], [0, 1, 2, 3, 4, 18, 19, 140], [0, 1, 2, 3, 4, 18, 19, 20], [0, 1, 2, 3, 4, 18, 19, 20, 21], [0, 1, 2, 3, 4, 18, 19, 20], [0, 1, 2, 3, 4, 18, 19, 20, 21], [0, 1, 2, 3, 4, 18, 19, 20, 21, 22], [0, 1, 2, 3, 4, 18, 19, 20, 21, 22], [0, 1, 2, 3, 4, 18, 19, 20, 21, 22, 151], [0, 1, 2, 3, 4, 18, 19, 20, 21, 22, 23], [2], [0, 1, 2, 3, 4, 18, 19, 20, 21, 22, 23, 171], [0, 1, 2, 3, 4, 18, 19, 20, 21, 22], [0, 1, 2, 3, 4, 18, 19, 20, 21, 22], [0, 1, 2, 3, 4, 18, 20, 24], [0, 1, 2, 3, 4, 18, 20, 24, 185], [0], [0, 1, 3, 4, 18, 20, 24], [0, 1, 3, 4, 18, 20, 24, 199], [0], [0, 3, 4, 18, 24], [0, 3, 4, 18, 24, 213], [0], []]
def fn94B0 : Cd :=
  (.seq (.seq (.rg [⟨(some 31), none, .mv (.t 10)⟩,
      ⟨(some 32), none, .mv (.t 11)⟩,
      ⟨(some 33), none, .bin .lss (.t 31) (.t 32)⟩] [0, 1, 4, 10, 11, 33])
  (.cond (.t 33)
    .skip
    (.exit 0)))
  (.block 1
    (.seq (.rg [⟨(some 34), none, .mv (.t 10)⟩,
        ⟨(some 35), none, .mv (.t 11)⟩,
        ⟨(some 36), none, .bin .add (.t 34) (.t 35)⟩,
        ⟨(some 37), none, .cvi .u64 (.t 36)⟩,
        ⟨(some 38), none, .bin .shr (.t 37) (.c (.int .u64 1))⟩,
        ⟨(some 39), none, .cvi .i64 (.t 38)⟩,
        ⟨(some 12), none, .mv (.t 39)⟩] [0, 1, 4, 10, 11, 12])
    (.seq (.rg [⟨(some 40), none, .mv (.t 4)⟩,
        ⟨(some 41), none, .mv (.t 0)⟩,
        ⟨(some 42), none, .mv (.t 12)⟩,
        ⟨(some 43), none, .iad 3 (.t 41) (.t 42)⟩,
        ⟨(some 44), none, .load true 3 (.t 43) false⟩,
        ⟨(some 45), none, .mv (.t 0)⟩,
        ⟨(some 46), none, .mv (.t 1)⟩,
        ⟨(some 47), none, .iad 3 (.t 45) (.t 46)⟩,
        ⟨(some 48), none, .load true 3 (.t 47) false⟩,
        ⟨(some 49), none, .call 2 (.t 40) [(.t 44), (.t 48)]⟩,
        ⟨(some 50), none, .bin .lss (.t 49) (.c (.int .i64 0))⟩] [0, 1, 4, 10, 11, 12, 50])
    (.cond (.t 50)
      (.rg [⟨(some 51), none, .mv (.t 12)⟩,
          ⟨(some 52), none, .bin .add (.t 51) (.c (.int .i64 1))⟩,
          ⟨(some 10), none, .mv (.t 52)⟩] [0, 1, 4, 10, 11])
      (.rg [⟨(some 53), none, .mv (.t 12)⟩,
          ⟨(some 11), none, .mv (.t 53)⟩] [0, 1, 4, 10, 11]))))))
def fn94L0 : Cd := .loop [0, 1, 4, 10, 11] fn94B0
def fn94B1 : Cd :=
  (.seq (.seq (.rg [⟨(some 55), none, .mv (.t 13)⟩,
      ⟨(some 56), none, .mv (.t 10)⟩,
      ⟨(some 57), none, .bin .sub (.t 56) (.c (.int .i64 1))⟩,
      ⟨(some 58), none, .bin .lss (.t 55) (.t 57)⟩] [0, 10, 13, 58])
  (.cond (.t 58)
    .skip
    (.exit 2)))
  (.seq (.block 3
    (.rg [⟨(some 61), none, .mv (.t 0)⟩,
        ⟨(some 62), none, .mv (.t 13)⟩,
        ⟨(some 63), none, .mv (.t 0)⟩,
        ⟨(some 64), none, .mv (.t 13)⟩,
        ⟨(some 65), none, .bin .add (.t 64) (.c (.int .i64 1))⟩,
        ⟨(some 66), none, .mv (.t 0)⟩,
        ⟨(some 67), none, .mv (.t 13)⟩,
        ⟨(some 68), none, .bin .add (.t 67) (.c (.int .i64 1))⟩,
        ⟨(some 69), none, .iad 3 (.t 66) (.t 68)⟩,
        ⟨(some 70), none, .load true 3 (.t 69) false⟩,
        ⟨(some 71), none, .mv (.t 0)⟩,
        ⟨(some 72), none, .mv (.t 13)⟩,
        ⟨(some 73), none, .iad 3 (.t 71) (.t 72)⟩,
        ⟨(some 74), none, .load true 3 (.t 73) false⟩,
        ⟨(some 75), none, .iad 3 (.t 61) (.t 62)⟩,
        ⟨none, none, .store 3 (.t 75) (.t 70)⟩,
        ⟨(some 76), none, .iad 3 (.t 63) (.t 65)⟩,
        ⟨none, none, .store 3 (.t 76) (.t 74)⟩] [0, 10, 13]))
  (.rg [⟨(some 59), none, .mv (.t 13)⟩,
      ⟨(some 60), none, .bin .add (.t 59) (.c (.int .i64 1))⟩,
      ⟨(some 13), none, .mv (.t 60)⟩] [0, 10, 13])))
def fn94L1 : Cd := .loop [0, 10, 13] fn94B1
def fn94B2 : Cd :=
  (.seq (.seq (.rg [⟨(some 83), none, .mv (.t 14)⟩,
      ⟨(some 84), none, .mv (.t 15)⟩,
      ⟨(some 85), none, .bin .lss (.t 83) (.t 84)⟩] [0, 2, 4, 14, 15, 85])
  (.cond (.t 85)
    .skip
    (.exit 4)))
  (.block 5
    (.seq (.rg [⟨(some 86), none, .mv (.t 14)⟩,
        ⟨(some 87), none, .mv (.t 15)⟩,
        ⟨(some 88), none, .bin .add (.t 86) (.t 87)⟩,
        ⟨(some 89), none, .cvi .u64 (.t 88)⟩,
        ⟨(some 90), none, .bin .shr (.t 89) (.c (.int .u64 1))⟩,
        ⟨(some 91), none, .cvi .i64 (.t 90)⟩,
        ⟨(some 16), none, .mv (.t 91)⟩] [0, 2, 4, 14, 15, 16])
    (.seq (.rg [⟨(some 92), none, .mv (.t 4)⟩,
        ⟨(some 93), none, .mv (.t 0)⟩,
        ⟨(some 94), none, .mv (.t 2)⟩,
        ⟨(some 95), none, .iad 3 (.t 93) (.t 94)⟩,
        ⟨(some 96), none, .load true 3 (.t 95) false⟩,
        ⟨(some 97), none, .mv (.t 0)⟩,
        ⟨(some 98), none, .mv (.t 16)⟩,
        ⟨(some 99), none, .iad 3 (.t 97) (.t 98)⟩,
        ⟨(some 100), none, .load true 3 (.t 99) false⟩,
        ⟨(some 101), none, .call 2 (.t 92) [(.t 96), (.t 100)]⟩,
        ⟨(some 102), none, .bin .lss (.t 101) (.c (.int .i64 0))⟩,
        ⟨(some 103), none, .un .not (.t 102)⟩] [0, 2, 4, 14, 15, 16, 103])
    (.cond (.t 103)
      (.rg [⟨(some 104), none, .mv (.t 16)⟩,
          ⟨(some 105), none, .bin .add (.t 104) (.c (.int .i64 1))⟩,
          ⟨(some 14), none, .mv (.t 105)⟩] [0, 2, 4, 14, 15])
      (.rg [⟨(some 106), none, .mv (.t 16)⟩,
          ⟨(some 15), none, .mv (.t 106)⟩] [0, 2, 4, 14, 15]))))))
def fn94L2 : Cd := .loop [0, 2, 4, 14, 15] fn94B2
def fn94B3 : Cd :=
  (.seq (.seq (.rg [⟨(some 108), none, .mv (.t 17)⟩,
      ⟨(some 109), none, .mv (.t 14)⟩,
      ⟨(some 110), none, .bin .gtr (.t 108) (.t 109)⟩] [0, 14, 17, 110])
  (.cond (.t 110)
    .skip
    (.exit 6)))
  (.seq (.block 7
    (.rg [⟨(some 113), none, .mv (.t 0)⟩,
        ⟨(some 114), none, .mv (.t 17)⟩,
        ⟨(some 115), none, .mv (.t 0)⟩,
        ⟨(some 116), none, .mv (.t 17)⟩,
        ⟨(some 117), none, .bin .sub (.t 116) (.c (.int .i64 1))⟩,
        ⟨(some 118), none, .mv (.t 0)⟩,
        ⟨(some 119), none, .mv (.t 17)⟩,
        ⟨(some 120), none, .bin .sub (.t 119) (.c (.int .i64 1))⟩,
        ⟨(some 121), none, .iad 3 (.t 118) (.t 120)⟩,
        ⟨(some 122), none, .load true 3 (.t 121) false⟩,
        ⟨(some 123), none, .mv (.t 0)⟩,
        ⟨(some 124), none, .mv (.t 17)⟩,
        ⟨(some 125), none, .iad 3 (.t 123) (.t 124)⟩,
        ⟨(some 126), none, .load true 3 (.t 125) false⟩,
        ⟨(some 127), none, .iad 3 (.t 113) (.t 114)⟩,
        ⟨none, none, .store 3 (.t 127) (.t 122)⟩,
        ⟨(some 128), none, .iad 3 (.t 115) (.t 117)⟩,
        ⟨none, none, .store 3 (.t 128) (.t 126)⟩] [0, 14, 17]))
  (.rg [⟨(some 111), none, .mv (.t 17)⟩,
      ⟨(some 112), none, .bin .sub (.t 111) (.c (.int .i64 1))⟩,
      ⟨(some 17), none, .mv (.t 112)⟩] [0, 14, 17])))
def fn94L3 : Cd := .loop [0, 14, 17] fn94B3
def fn94B4 : Cd :=
  (.seq (.seq (.rg [⟨(some 149), none, .mv (.t 20)⟩,
      ⟨(some 150), none, .mv (.t 21)⟩,
      ⟨(some 151), none, .bin .lss (.t 149) (.t 150)⟩] [0, 1, 2, 3, 4, 18, 19, 20, 21, 22, 151])
  (.cond (.t 151)
    .skip
    (.exit 8)))
  (.block 9
    (.seq (.rg [⟨(some 152), none, .mv (.t 20)⟩,
        ⟨(some 153), none, .mv (.t 21)⟩,
        ⟨(some 154), none, .bin .add (.t 152) (.t 153)⟩,
        ⟨(some 155), none, .cvi .u64 (.t 154)⟩,
        ⟨(some 156), none, .bin .shr (.t 155) (.c (.int .u64 1))⟩,
        ⟨(some 157), none, .cvi .i64 (.t 156)⟩,
        ⟨(some 23), none, .mv (.t 157)⟩] [0, 1, 2, 3, 4, 18, 19, 20, 21, 22, 23])
    (.seq (.rg [⟨(some 158), none, .mv (.t 4)⟩,
        ⟨(some 159), none, .mv (.t 0)⟩,
        ⟨(some 160), none, .mv (.t 22)⟩,
        ⟨(some 161), none, .mv (.t 23)⟩,
        ⟨(some 162), none, .bin .sub (.t 160) (.t 161)⟩,
        ⟨(some 163), none, .iad 3 (.t 159) (.t 162)⟩,
        ⟨(some 164), none, .load true 3 (.t 163) false⟩,
        ⟨(some 165), none, .mv (.t 0)⟩,
        ⟨(some 166), none, .mv (.t 23)⟩,
        ⟨(some 167), none, .iad 3 (.t 165) (.t 166)⟩,
        ⟨(some 168), none, .load true 3 (.t 167) false⟩,
        ⟨(some 169), none, .call 2 (.t 158) [(.t 164), (.t 168)]⟩,
        ⟨(some 170), none, .bin .lss (.t 169) (.c (.int .i64 0))⟩,
        ⟨(some 171), none, .un .not (.t 170)⟩] [0, 1, 2, 3, 4, 18, 19, 20, 21, 22, 23, 171])
    (.cond (.t 171)
      (.rg [⟨(some 172), none, .mv (.t 23)⟩,
          ⟨(some 173), none, .bin .add (.t 172) (.c (.int .i64 1))⟩,
          ⟨(some 20), none, .mv (.t 173)⟩] [0, 1, 2, 3, 4, 18, 19, 20, 21, 22])
      (.rg [⟨(some 174), none, .mv (.t 23)⟩,
          ⟨(some 21), none, .mv (.t 174)⟩] [0, 1, 2, 3, 4, 18, 19, 20, 21, 22]))))))
def fn94L4 : Cd := .loop [0, 1, 2, 3, 4, 18, 19, 20, 21, 22] fn94B4
def fn94 : Vs.Fn := ⟨5,
  (.seq (.seq (.rg [⟨(some 25), none, .mv (.t 2)⟩,
      ⟨(some 26), none, .mv (.t 1)⟩,
      ⟨(some 27), none, .bin .sub (.t 25) (.t 26)⟩,
      ⟨(some 28), none, .bin .eql (.t 27) (.c (.int .i64 1))⟩] [0, 1, 2, 3, 4, 28])
  (.cond (.t 28)
    (.seq (.rg [⟨(some 29), none, .mv (.t 2)⟩,
        ⟨(some 10), none, .mv (.t 29)⟩] [0, 1, 3, 4, 10])
    (.seq (.rg [⟨(some 30), none, .mv (.t 3)⟩,
        ⟨(some 11), none, .mv (.t 30)⟩] [0, 1, 4, 10, 11])
    (.seq (.block 0
      fn94L0)
    (.seq (.seq (.rg [⟨(some 54), none, .mv (.t 1)⟩,
        ⟨(some 13), none, .mv (.t 54)⟩] [0, 10, 13])
    (.block 2
      fn94L1))
    .ret))))
    .skip))
  (.seq (.seq (.rg [⟨(some 77), none, .mv (.t 3)⟩,
      ⟨(some 78), none, .mv (.t 2)⟩,
      ⟨(some 79), none, .bin .sub (.t 77) (.t 78)⟩,
      ⟨(some 80), none, .bin .eql (.t 79) (.c (.int .i64 1))⟩] [0, 1, 2, 3, 4, 80])
  (.cond (.t 80)
    (.seq (.rg [⟨(some 81), none, .mv (.t 1)⟩,
        ⟨(some 14), none, .mv (.t 81)⟩] [0, 2, 4, 14])
    (.seq (.rg [⟨(some 82), none, .mv (.t 2)⟩,
        ⟨(some 15), none, .mv (.t 82)⟩] [0, 2, 4, 14, 15])
    (.seq (.block 4
      fn94L2)
    (.seq (.seq (.rg [⟨(some 107), none, .mv (.t 2)⟩,
        ⟨(some 17), none, .mv (.t 107)⟩] [0, 14, 17])
    (.block 6
      fn94L3))
    .ret))))
    .skip))
  (.seq (.rg [⟨(some 129), none, .mv (.t 1)⟩,
      ⟨(some 130), none, .mv (.t 3)⟩,
      ⟨(some 131), none, .bin .add (.t 129) (.t 130)⟩,
      ⟨(some 132), none, .cvi .u64 (.t 131)⟩,
      ⟨(some 133), none, .bin .shr (.t 132) (.c (.int .u64 1))⟩,
      ⟨(some 134), none, .cvi .i64 (.t 133)⟩,
      ⟨(some 18), none, .mv (.t 134)⟩] [0, 1, 2, 3, 4, 18])
  (.seq (.rg [⟨(some 135), none, .mv (.t 18)⟩,
      ⟨(some 136), none, .mv (.t 2)⟩,
      ⟨(some 137), none, .bin .add (.t 135) (.t 136)⟩,
      ⟨(some 19), none, .mv (.t 137)⟩] [0, 1, 2, 3, 4, 18, 19])
  (.seq (.rg [⟨(some 20), none, .mv (.c (.int .i64 0))⟩,
      ⟨(some 21), none, .mv (.c (.int .i64 0))⟩] [0, 1, 2, 3, 4, 18, 19])
  (.seq (.seq (.rg [⟨(some 138), none, .mv (.t 2)⟩,
      ⟨(some 139), none, .mv (.t 18)⟩,
      ⟨(some 140), none, .bin .gtr (.t 138) (.t 139)⟩] [0, 1, 2, 3, 4, 18, 19, 140])
  (.cond (.t 140)
    (.seq (.rg [⟨(some 141), none, .mv (.t 19)⟩,
        ⟨(some 142), none, .mv (.t 3)⟩,
        ⟨(some 143), none, .bin .sub (.t 141) (.t 142)⟩,
        ⟨(some 20), none, .mv (.t 143)⟩] [0, 1, 2, 3, 4, 18, 19, 20])
    (.rg [⟨(some 144), none, .mv (.t 18)⟩,
        ⟨(some 21), none, .mv (.t 144)⟩] [0, 1, 2, 3, 4, 18, 19, 20, 21]))
    (.seq (.rg [⟨(some 145), none, .mv (.t 1)⟩,
        ⟨(some 20), none, .mv (.t 145)⟩] [0, 1, 2, 3, 4, 18, 19, 20])
    (.rg [⟨(some 146), none, .mv (.t 2)⟩,
        ⟨(some 21), none, .mv (.t 146)⟩] [0, 1, 2, 3, 4, 18, 19, 20, 21]))))
  (.seq (.rg [⟨(some 147), none, .mv (.t 19)⟩,
      ⟨(some 148), none, .bin .sub (.t 147) (.c (.int .i64 1))⟩,
      ⟨(some 22), none, .mv (.t 148)⟩] [0, 1, 2, 3, 4, 18, 19, 20, 21, 22])
  (.seq (.block 8
    fn94L4)
  (.seq (.rg [⟨(some 175), none, .mv (.t 19)⟩,
      ⟨(some 176), none, .mv (.t 20)⟩,
      ⟨(some 177), none, .bin .sub (.t 175) (.t 176)⟩,
      ⟨(some 24), none, .mv (.t 177)⟩] [0, 1, 2, 3, 4, 18, 20, 24])
  (.seq (.seq (.rg [⟨(some 178), none, .mv (.t 20)⟩,
      ⟨(some 179), none, .mv (.t 2)⟩,
      ⟨(some 180), none, .bin .lss (.t 178) (.t 179)⟩,
      ⟨(some 181), none, .mv (.t 180)⟩,
      ⟨(some 182), some (181, true), .mv (.t 2)⟩,
      ⟨(some 183), some (181, true), .mv (.t 24)⟩,
      ⟨(some 184), some (181, true), .bin .lss (.t 182) (.t 183)⟩,
      ⟨(some 185), none, .pick (.t 181) (.t 184) (.c (.bool false))⟩] [0, 1, 2, 3, 4, 18, 20, 24, 185])
  (.cond (.t 185)
    (.rg [⟨(some 186), none, .mv (.t 0)⟩,
        ⟨(some 187), none, .mv (.t 20)⟩,
        ⟨(some 188), none, .mv (.t 2)⟩,
        ⟨(some 189), none, .mv (.t 24)⟩,
        ⟨(some 190), none, .mv (.t 4)⟩,
        ⟨(some 191), none, .call 0 (.f 99) [(.t 186), (.t 187), (.t 188), (.t 189), (.t 190)]⟩] [0, 1, 3, 4, 18, 20, 24])
    .skip))
  (.seq (.seq (.rg [⟨(some 192), none, .mv (.t 1)⟩,
      ⟨(some 193), none, .mv (.t 20)⟩,
      ⟨(some 194), none, .bin .lss (.t 192) (.t 193)⟩,
      ⟨(some 195), none, .mv (.t 194)⟩,
      ⟨(some 196), some (195, true), .mv (.t 20)⟩,
      ⟨(some 197), some (195, true), .mv (.t 18)⟩,
      ⟨(some 198), some (195, true), .bin .lss (.t 196) (.t 197)⟩,
      ⟨(some 199), none, .pick (.t 195) (.t 198) (.c (.bool false))⟩] [0, 1, 3, 4, 18, 20, 24, 199])
  (.cond (.t 199)
    (.rg [⟨(some 200), none, .mv (.t 0)⟩,
        ⟨(some 201), none, .mv (.t 1)⟩,
        ⟨(some 202), none, .mv (.t 20)⟩,
        ⟨(some 203), none, .mv (.t 18)⟩,
        ⟨(some 204), none, .mv (.t 4)⟩,
        ⟨(some 205), none, .call 0 (.f 94) [(.t 200), (.t 201), (.t 202), (.t 203), (.t 204)]⟩] [0, 3, 4, 18, 24])
    .skip))
  (.seq (.rg [⟨(some 206), none, .mv (.t 18)⟩,
      ⟨(some 207), none, .mv (.t 24)⟩,
      ⟨(some 208), none, .bin .lss (.t 206) (.t 207)⟩,
      ⟨(some 209), none, .mv (.t 208)⟩,
      ⟨(some 210), some (209, true), .mv (.t 24)⟩,
      ⟨(some 211), some (209, true), .mv (.t 3)⟩,
      ⟨(some 212), some (209, true), .bin .lss (.t 210) (.t 211)⟩,
      ⟨(some 213), none, .pick (.t 209) (.t 212) (.c (.bool false))⟩] [0, 3, 4, 18, 24, 213])
  (.cond (.t 213)
    (.rg [⟨(some 214), none, .mv (.t 0)⟩,
        ⟨(some 215), none, .mv (.t 18)⟩,
        ⟨(some 216), none, .mv (.t 24)⟩,
        ⟨(some 217), none, .mv (.t 3)⟩,
        ⟨(some 218), none, .mv (.t 4)⟩,
        ⟨(some 219), none, .call 0 (.f 94) [(.t 214), (.t 215), (.t 216), (.t 217), (.t 218)]⟩] [])
    .skip))))))))))))),
  []⟩

/- slices.IndexFunc[[]spillway/api.Pair,spillway/api.Pair] -/
def an95 : Ann := [[0, 1], [0, 1, 7, 8], [0, 1, 7, 8], [0, 1, 7, 8, 9], [0, 1, 5, 7, 8], [2], [0, 1, 5, 7, 8, 16], [4], [0, 1, 7, 8], [4]]
def fn95B0 : Cd :=
  (.seq (.rg [⟨(some 9), none, .bin .lss (.t 8) (.t 7)⟩] [0, 1, 7, 8, 9])
  (.seq (.cond (.t 9)
    .skip
    (.exit 0))
  (.seq (.block 1
    (.seq (.rg [⟨(some 10), none, .mv (.t 8)⟩,
        ⟨(some 5), none, .mv (.t 10)⟩] [0, 1, 5, 7, 8])
    (.seq (.rg [⟨(some 11), none, .mv (.t 1)⟩,
        ⟨(some 12), none, .mv (.t 0)⟩,
        ⟨(some 13), none, .mv (.t 5)⟩,
        ⟨(some 14), none, .iad 2 (.t 12) (.t 13)⟩,
        ⟨(some 15), none, .load true 2 (.t 14) false⟩,
        ⟨(some 16), none, .call 2 (.t 11) [(.t 15)]⟩] [0, 1, 5, 7, 8, 16])
    (.cond (.t 16)
      (.seq (.rg [⟨(some 17), none, .mv (.t 5)⟩,
          ⟨(some 4), none, .mv (.t 17)⟩] [4])
      .ret)
      .skip))))
  (.rg [⟨(some 18), none, .bin .add (.t 8) (.c (.int .i64 1))⟩,
      ⟨(some 8), none, .mv (.t 18)⟩] [0, 1, 7, 8]))))
def fn95L0 : Cd := .loop [0, 1, 7, 8] fn95B0
def fn95 : Vs.Fn := ⟨2,
  (.seq (.rg [⟨(some 4), none, .mv (.c (.int .i64 0))⟩] [0, 1])
  (.seq (.seq (.rg [⟨(some 6), none, .mv (.t 0)⟩,
      ⟨(some 7), none, .len false (.t 6)⟩,
      ⟨(some 8), none, .mv (.c (.int .i64 0))⟩] [0, 1, 7, 8])
  (.block 0
    fn95L0))
  (.seq (.rg [⟨(some 4), none, .mv (.c (.int .i64 (-1)))⟩] [4])
  .ret))),
  [.t 4]⟩

/- slices.rotateLeft[spillway/vector.keyed] -/
def an96 : Ann := [[2], [0, 1], [2], [0], [2], []]
def fn96 : Vs.Fn := ⟨2,
  (.seq (.rg [⟨(some 4), none, .mv (.t 0)⟩,
      ⟨(some 5), none, .mv (.t 1)⟩,
      ⟨(some 6), none, .slsl 2 (.t 4) none (some (.t 5)) none⟩,
      ⟨(some 7), none, .call 2 (.f 100) [(.t 6)]⟩] [0, 1])
  (.seq (.rg [⟨(some 8), none, .mv (.t 0)⟩,
      ⟨(some 9), none, .mv (.t 1)⟩,
      ⟨(some 10), none, .slsl 2 (.t 8) (some (.t 9)) none none⟩,
      ⟨(some 11), none, .call 2 (.f 100) [(.t 10)]⟩] [0])
  (.rg [⟨(some 12), none, .mv (.t 0)⟩,
      ⟨(some 13), none, .call 2 (.f 100) [(.t 12)]⟩] []))),
  []⟩

/- math/bits.Len64 -/
def an98 : Ann := [[0, 2], [0, 2, 4], [0], [0, 2], [0, 2, 8], [0, 2], [0, 2], [0, 2, 14], [0, 2], [0, 2], [2]]
def fn98 : Vs.Fn := ⟨1,
  (.seq (.rg [⟨(some 2), none, .mv (.c (.int .i64 0))⟩] [0, 2])
  (.seq (.seq (.rg [⟨(some 3), none, .mv (.t 0)⟩,
      ⟨(some 4), none, .bin .geq (.t 3) (.c (.int .u64 4294967296))⟩] [0, 2, 4])
  (.cond (.t 4)
    (.seq (.rg [⟨(some 5), none, .mv (.t 0)⟩,
        ⟨(some 6), none, .bin .shr (.t 5) (.c (.int .u64 32))⟩,
        ⟨(some 0), none, .mv (.t 6)⟩] [0])
    (.rg [⟨(some 2), none, .mv (.c (.int .i64 32))⟩] [0, 2]))
    .skip))
  (.seq (.seq (.rg [⟨(some 7), none, .mv (.t 0)⟩,
      ⟨(some 8), none, .bin .geq (.t 7) (.c (.int .u64 65536))⟩] [0, 2, 8])
  (.cond (.t 8)
    (.seq (.rg [⟨(some 9), none, .mv (.t 0)⟩,
        ⟨(some 10), none, .bin .shr (.t 9) (.c (.int .u64 16))⟩,
        ⟨(some 0), none, .mv (.t 10)⟩] [0, 2])
    (.rg [⟨(some 11), none, .mv (.t 2)⟩,
        ⟨(some 12), none, .bin .add (.t 11) (.c (.int .i64 16))⟩,
        ⟨(some 2), none, .mv (.t 12)⟩] [0, 2]))
    .skip))
  (.seq (.seq (.rg [⟨(some 13), none, .mv (.t 0)⟩,
      ⟨(some 14), none, .bin .geq (.t 13) (.c (.int .u64 256))⟩] [0, 2, 14])
  (.cond (.t 14)
    (.seq (.rg [⟨(some 15), none, .mv (.t 0)⟩,
        ⟨(some 16), none, .bin .shr (.t 15) (.c (.int .u64 8))⟩,
        ⟨(some 0), none, .mv (.t 16)⟩] [0, 2])
    (.rg [⟨(some 17), none, .mv (.t 2)⟩,
        ⟨(some 18), none, .bin .add (.t 17) (.c (.int .i64 8))⟩,
        ⟨(some 2), none, .mv (.t 18)⟩] [0, 2]))
    .skip))
  (.seq (.rg [⟨(some 19), none, .mv (.t 2)⟩,
      ⟨(some 20), none, .mv (.t 0)⟩,
      ⟨(some 21), none, .cvi .u8 (.t 20)⟩,
      ⟨(some 22), none, .ist (.c (.string ⟨#[0, 1, 2, 2, 3, 3, 3, 3, 4, 4, 4, 4, 4, 4, 4, 4, 5, 5, 5, 5, 5, 5, 5, 5, 5, 5, 5, 5, 5, 5, 5, 5, 6, 6, 6, 6, 6, 6, 6, 6, 6, 6, 6, 6, 6, 6, 6, 6, 6, 6, 6, 6, 6, 6, 6, 6, 6, 6, 6, 6, 6, 6, 6, 6, 7, 7, 7, 7, 7, 7, 7, 7, 7, 7, 7, 7, 7, 7, 7, 7, 7, 7, 7, 7, 7, 7, 7, 7, 7, 7, 7, 7, 7, 7, 7, 7, 7, 7, 7, 7, 7, 7, 7, 7, 7, 7, 7, 7, 7, 7, 7, 7, 7, 7, 7, 7, 7, 7, 7, 7, 7, 7, 7, 7, 7, 7, 7, 7, 8, 8, 8, 8, 8, 8, 8, 8, 8, 8, 8, 8, 8, 8, 8, 8, 8, 8, 8, 8, 8, 8, 8, 8, 8, 8, 8, 8, 8, 8, 8, 8, 8, 8, 8, 8, 8, 8, 8, 8, 8, 8, 8, 8, 8, 8, 8, 8, 8, 8, 8, 8, 8, 8, 8, 8, 8, 8, 8, 8, 8, 8, 8, 8, 8, 8, 8, 8, 8, 8, 8, 8, 8, 8, 8, 8, 8, 8, 8, 8, 8, 8, 8, 8, 8, 8, 8, 8, 8, 8, 8, 8, 8, 8, 8, 8, 8, 8, 8, 8, 8, 8, 8, 8, 8, 8, 8, 8, 8, 8, 8, 8, 8, 8, 8, 8, 8, 8, 8, 8, 8, 8, 8, 8, 8, 8, 8, 8]⟩)) (.t 21)⟩,
      ⟨(some 23), none, .cvi .i64 (.t 22)⟩,
      ⟨(some 24), none, .bin .add (.t 19) (.t 23)⟩,
      ⟨(some 2), none, .mv (.t 24)⟩] [2])
  .ret))))),
  [.t 2]⟩

/- slices.rotateCmpFunc[spillway/api.Row] -/
def an99 : Ann := [[0, 2, 3, 4, 10], [0, 2, 4, 10, 11], [0, 2, 4, 10, 11], [0, 2, 4, 10, 11, 20], [0, 2, 4, 10, 11, 23], [0], [0, 2, 4, 10, 11], [0, 2, 4, 10, 11], [0], [0, 2, 4, 10, 11], [0, 2, 4, 10, 11], [0], []]
def fn99B0 : Cd :=
  (.seq (.seq (.rg [⟨(some 18), none, .mv (.t 10)⟩,
      ⟨(some 19), none, .mv (.t 11)⟩,
      ⟨(some 20), none, .bin .neq (.t 18) (.t 19)⟩] [0, 2, 4, 10, 11, 20])
  (.cond (.t 20)
    .skip
    (.exit 0)))
  (.block 1
    (.seq (.rg [⟨(some 21), none, .mv (.t 10)⟩,
        ⟨(some 22), none, .mv (.t 11)⟩,
        ⟨(some 23), none, .bin .gtr (.t 21) (.t 22)⟩] [0, 2, 4, 10, 11, 23])
    (.cond (.t 23)
      (.seq (.rg [⟨(some 24), none, .mv (.t 0)⟩,
          ⟨(some 25), none, .mv (.t 2)⟩,
          ⟨(some 26), none, .mv (.t 10)⟩,
          ⟨(some 27), none, .bin .sub (.t 25) (.t 26)⟩,
          ⟨(some 28), none, .mv (.t 2)⟩,
          ⟨(some 29), none, .mv (.t 11)⟩,
          ⟨(some 30), none, .mv (.t 4)⟩,
          ⟨(some 31), none, .call 0 (.f 101) [(.t 24), (.t 27), (.t 28), (.t 29), (.t 30)]⟩] [0, 2, 4, 10, 11])
      (.rg [⟨(some 32), none, .mv (.t 10)⟩,
          ⟨(some 33), none, .mv (.t 11)⟩,
          ⟨(some 34), none, .bin .sub (.t 32) (.t 33)⟩,
          ⟨(some 10), none, .mv (.t 34)⟩] [0, 2, 4, 10, 11]))
      (.seq (.rg [⟨(some 35), none, .mv (.t 0)⟩,
          ⟨(some 36), none, .mv (.t 2)⟩,
          ⟨(some 37), none, .mv (.t 10)⟩,
          ⟨(some 38), none, .bin .sub (.t 36) (.t 37)⟩,
          ⟨(some 39), none, .mv (.t 2)⟩,
          ⟨(some 40), none, .mv (.t 11)⟩,
          ⟨(some 41), none, .bin .add (.t 39) (.t 40)⟩,
          ⟨(some 42), none, .mv (.t 10)⟩,
          ⟨(some 43), none, .bin .sub (.t 41) (.t 42)⟩,
          ⟨(some 44), none, .mv (.t 10)⟩,
          ⟨(some 45), none, .mv (.t 4)⟩,
          ⟨(some 46), none, .call 0 (.f 101) [(.t 35), (.t 38), (.t 43), (.t 44), (.t 45)]⟩] [0, 2, 4, 10, 11])
      (.rg [⟨(some 47), none, .mv (.t 11)⟩,
          ⟨(some 48), none, .mv (.t 10)⟩,
          ⟨(some 49), none, .bin .sub (.t 47) (.t 48)⟩,
          ⟨(some 11), none, .mv (.t 49)⟩] [0, 2, 4, 10, 11]))))))
def fn99L0 : Cd := .loop [0, 2, 4, 10, 11] fn99B0
def fn99 : Vs.Fn := ⟨5,
  (.seq (.rg [⟨(some 12), none, .mv (.t 2)⟩,
      ⟨(some 13), none, .mv (.t 1)⟩,
      ⟨(some 14), none, .bin .sub (.t 12) (.t 13)⟩,
      ⟨(some 10), none, .mv (.t 14)⟩] [0, 2, 3, 4, 10])
  (.seq (.rg [⟨(some 15), none, .mv (.t 3)⟩,
      ⟨(some 16), none, .mv (.t 2)⟩,
      ⟨(some 17), none, .bin .sub (.t 15) (.t 16)⟩,
      ⟨(some 11), none, .mv (.t 17)⟩] [0, 2, 4, 10, 11])
  (.seq (.block 0
    fn99L0)
  (.rg [⟨(some 50), none, .mv (.t 0)⟩,
      ⟨(some 51), none, .mv (.t 2)⟩,
      ⟨(some 52), none, .mv (.t 10)⟩,
      ⟨(some 53), none, .bin .sub (.t 51) (.t 52)⟩,
      ⟨(some 54), none, .mv (.t 2)⟩,
      ⟨(some 55), none, .mv (.t 10)⟩,
      ⟨(some 56), none, .mv (.t 4)⟩,
      ⟨(some 57), none, .call 0 (.f 101) [(.t 50), (.t 53), (.t 54), (.t 55), (.t 56)]⟩] [])))),
  []⟩

/- slices.Reverse[[]spillway/vector.keyed,spillway/vector.keyed] -/
def an100 : Ann := [[0, 2, 3], [0, 2, 3], [0, 2, 3, 9], [0, 2, 3], [0, 2, 3]]
def fn100B0 : Cd :=
  (.seq (.seq (.rg [⟨(some 7), none, .mv (.t 2)⟩,
      ⟨(some 8), none, .mv (.t 3)⟩,
      ⟨(some 9), none, .bin .lss (.t 7) (.t 8)⟩] [0, 2, 3, 9])
  (.cond (.t 9)
    .skip
    (.exit 0)))
  (.seq (.block 1
    (.rg [⟨(some 14), none, .mv (.t 0)⟩,
        ⟨(some 15), none, .mv (.t 2)⟩,
        ⟨(some 16), none, .mv (.t 0)⟩,
        ⟨(some 17), none, .mv (.t 3)⟩,
        ⟨(some 18), none, .mv (.t 0)⟩,
        ⟨(some 19), none, .mv (.t 3)⟩,
        ⟨(some 20), none, .iad 2 (.t 18) (.t 19)⟩,
        ⟨(some 21), none, .load true 2 (.t 20) false⟩,
        ⟨(some 22), none, .mv (.t 0)⟩,
        ⟨(some 23), none, .mv (.t 2)⟩,
        ⟨(some 24), none, .iad 2 (.t 22) (.t 23)⟩,
        ⟨(some 25), none, .load true 2 (.t 24) false⟩,
        ⟨(some 26), none, .iad 2 (.t 14) (.t 15)⟩,
        ⟨none, none, .store 2 (.t 26) (.t 21)⟩,
        ⟨(some 27), none, .iad 2 (.t 16) (.t 17)⟩,
        ⟨none, none, .store 2 (.t 27) (.t 25)⟩] [0, 2, 3]))
  (.rg [⟨(some 10), none, .mv (.t 2)⟩,
      ⟨(some 11), none, .bin .add (.t 10) (.c (.int .i64 1))⟩,
      ⟨(some 12), none, .mv (.t 3)⟩,
      ⟨(some 13), none, .bin .sub (.t 12) (.c (.int .i64 1))⟩,
      ⟨(some 2), none, .mv (.t 11)⟩,
      ⟨(some 3), none, .mv (.t 13)⟩] [0, 2, 3])))
def fn100L0 : Cd := .loop [0, 2, 3] fn100B0
def fn100 : Vs.Fn := ⟨1,
  (.seq (.rg [⟨(some 4), none, .mv (.t 0)⟩,
      ⟨(some 5), none, .len false (.t 4)⟩,
      ⟨(some 6), none, .bin .sub (.t 5) (.c (.int .i64 1))⟩,
      ⟨(some 2), none, .mv (.c (.int .i64 0))⟩,
      ⟨(some 3), none, .mv (.t 6)⟩] [0, 2, 3])
  (.block 0
    fn100L0)),
  []⟩

/- slices.swapRangeCmpFunc[spillway/api.Row] -/
def an101 : Ann := [[0, 1, 2, 3, 10], [0, 1, 2, 3, 10], [0, 1, 2, 3, 10, 13], [0, 1, 2, 3, 10], [0, 1, 2, 3, 10]]
def fn101B0 : Cd :=
  (.seq (.seq (.rg [⟨(some 11), none, .mv (.t 10)⟩,
      ⟨(some 12), none, .mv (.t 3)⟩,
      ⟨(some 13), none, .bin .lss (.t 11) (.t 12)⟩] [0, 1, 2, 3, 10, 13])
  (.cond (.t 13)
    .skip
    (.exit 0)))
  (.seq (.block 1
    (.rg [⟨(some 16), none, .mv (.t 0)⟩,
        ⟨(some 17), none, .mv (.t 1)⟩,
        ⟨(some 18), none, .mv (.t 10)⟩,
        ⟨(some 19), none, .bin .add (.t 17) (.t 18)⟩,
        ⟨(some 20), none, .mv (.t 0)⟩,
        ⟨(some 21), none, .mv (.t 2)⟩,
        ⟨(some 22), none, .mv (.t 10)⟩,
        ⟨(some 23), none, .bin .add (.t 21) (.t 22)⟩,
        ⟨(some 24), none, .mv (.t 0)⟩,
        ⟨(some 25), none, .mv (.t 2)⟩,
        ⟨(some 26), none, .mv (.t 10)⟩,
        ⟨(some 27), none, .bin .add (.t 25) (.t 26)⟩,
        ⟨(some 28), none, .iad 3 (.t 24) (.t 27)⟩,
        ⟨(some 29), none, .load true 3 (.t 28) false⟩,
        ⟨(some 30), none, .mv (.t 0)⟩,
        ⟨(some 31), none, .mv (.t 1)⟩,
        ⟨(some 32), none, .mv (.t 10)⟩,
        ⟨(some 33), none, .bin .add (.t 31) (.t 32)⟩,
        ⟨(some 34), none, .iad 3 (.t 30) (.t 33)⟩,
        ⟨(some 35), none, .load true 3 (.t 34) false⟩,
        ⟨(some 36), none, .iad 3 (.t 16) (.t 19)⟩,
        ⟨none, none, .store 3 (.t 36) (.t 29)⟩,
        ⟨(some 37), none, .iad 3 (.t 20) (.t 23)⟩,
        ⟨none, none, .store 3 (.t 37) (.t 35)⟩] [0, 1, 2, 3, 10]))
  (.rg [⟨(some 14), none, .mv (.t 10)⟩,
      ⟨(some 15), none, .bin .add (.t 14) (.c (.int .i64 1))⟩,
      ⟨(some 10), none, .mv (.t 15)⟩] [0, 1, 2, 3, 10])))
def fn101L0 : Cd := .loop [0, 1, 2, 3, 10] fn101B0
def fn101 : Vs.Fn := ⟨5,
  (.seq (.rg [⟨(some 10), none, .mv (.c (.int .i64 0))⟩] [0, 1, 2, 3, 10])
  (.block 0
    fn101L0)),
  []⟩

def pg : Pg := fun f => match f with
  | 3 => some fn3
  | 6 => some fn6
  | 8 => some fn8
  | 9 => some fn9
  | 10 => some fn10
  | 11 => some fn11
  | 14 => some fn14
  | 15 => some fn15
  | 16 => some fn16
  | 17 => some fn17
  | 19 => some fn19
  | 20 => some fn20
  | 21 => some fn21
  | 22 => some fn22
  | 23 => some fn23
  | 24 => some fn24
  | 25 => some fn25
  | 26 => some fn26
  | 27 => some fn27
  | 28 => some fn28
  | 29 => some fn29
  | 30 => some fn30
  | 31 => some fn31
  | 32 => some fn32
  | 33 => some fn33
  | 34 => some fn34
  | 35 => some fn35
  | 36 => some fn36
  | 37 => some fn37
  | 38 => some fn38
  | 39 => some fn39
  | 40 => some fn40
  | 41 => some fn41
  | 42 => some fn42
  | 43 => some fn43
  | 44 => some fn44
  | 45 => some fn45
  | 46 => some fn46
  | 50 => some fn50
  | 51 => some fn51
  | 52 => some fn52
  | 53 => some fn53
  | 54 => some fn54
  | 55 => some fn55
  | 56 => some fn56
  | 57 => some fn57
  | 58 => some fn58
  | 59 => some fn59
  | 60 => some fn60
  | 61 => some fn61
  | 62 => some fn62
  | 63 => some fn63
  | 64 => some fn64
  | 65 => some fn65
  | 66 => some fn66
  | 67 => some fn67
  | 68 => some fn68
  | 69 => some fn69
  | 70 => some fn70
  | 71 => some fn71
  | 72 => some fn72
  | 73 => some fn73
  | 74 => some fn74
  | 75 => some fn75
  | 76 => some fn76
  | 77 => some fn77
  | 78 => some fn78
  | 79 => some fn79
  | 80 => some fn80
  | 81 => some fn81
  | 82 => some fn82
  | 83 => some fn83
  | 84 => some fn84
  | 85 => some fn85
  | 86 => some fn86
  | 88 => some fn88
  | 89 => some fn89
  | 90 => some fn90
  | 92 => some fn92
  | 93 => some fn93
  | 94 => some fn94
  | 95 => some fn95
  | 96 => some fn96
  | 98 => some fn98
  | 99 => some fn99
  | 100 => some fn100
  | 101 => some fn101
  | _ => none

theorem cfn3 : cFn Try.prog an3 Try.f3 = some fn3 := by kernel_rfl
theorem cfn6 : cFn Try.prog an6 Try.f6 = some fn6 := by kernel_rfl
theorem cfn8 : cFn Try.prog an8 Try.f8 = some fn8 := by kernel_rfl
theorem cfn9 : cFn Try.prog an9 Try.f9 = some fn9 := by kernel_rfl
theorem cfn10 : cFn Try.prog an10 Try.f10 = some fn10 := by kernel_rfl
theorem cfn11 : cFn Try.prog an11 Try.f11 = some fn11 := by kernel_rfl
theorem cfn14 : cFn Try.prog an14 Try.f14 = some fn14 := by kernel_rfl
theorem cfn15 : cFn Try.prog an15 Try.f15 = some fn15 := by kernel_rfl
theorem cfn16 : cFn Try.prog an16 Try.f16 = some fn16 := by kernel_rfl
theorem cfn17 : cFn Try.prog an17 Try.f17 = some fn17 := by kernel_rfl
theorem cfn19 : cFn Try.prog an19 Try.f19 = some fn19 := by kernel_rfl
theorem cfn20 : cFn Try.prog an20 Try.f20 = some fn20 := by kernel_rfl
theorem cfn21 : cFn Try.prog an21 Try.f21 = some fn21 := by kernel_rfl
theorem cfn22 : cFn Try.prog an22 Try.f22 = some fn22 := by kernel_rfl
theorem cfn23 : cFn Try.prog an23 Try.f23 = some fn23 := by kernel_rfl
theorem cfn24 : cFn Try.prog an24 Try.f24 = some fn24 := by kernel_rfl
theorem cfn25 : cFn Try.prog an25 Try.f25 = some fn25 := by kernel_rfl
theorem cfn26 : cFn Try.prog an26 Try.f26 = some fn26 := by kernel_rfl
theorem cfn27 : cFn Try.prog an27 Try.f27 = some fn27 := by kernel_rfl
theorem cfn28 : cFn Try.prog an28 Try.f28 = some fn28 := by kernel_rfl
theorem cfn29 : cFn Try.prog an29 Try.f29 = some fn29 := by kernel_rfl
theorem cfn30 : cFn Try.prog an30 Try.f30 = some fn30 := by kernel_rfl
theorem cfn31 : cFn Try.prog an31 Try.f31 = some fn31 := by kernel_rfl
theorem cfn32 : cFn Try.prog an32 Try.f32 = some fn32 := by kernel_rfl
theorem cfn33 : cFn Try.prog an33 Try.f33 = some fn33 := by kernel_rfl
theorem cfn34 : cFn Try.prog an34 Try.f34 = some fn34 := by kernel_rfl
theorem cfn35 : cFn Try.prog an35 Try.f35 = some fn35 := by kernel_rfl
theorem cfn36 : cFn Try.prog an36 Try.f36 = some fn36 := by kernel_rfl
theorem cfn37 : cFn Try.prog an37 Try.f37 = some fn37 := by kernel_rfl
theorem cfn38 : cFn Try.prog an38 Try.f38 = some fn38 := by kernel_rfl
theorem cfn39 : cFn Try.prog an39 Try.f39 = some fn39 := by kernel_rfl
theorem cfn40 : cFn Try.prog an40 Try.f40 = some fn40 := by kernel_rfl
theorem cfn41 : cFn Try.prog an41 Try.f41 = some fn41 := by kernel_rfl
theorem cfn42 : cFn Try.prog an42 Try.f42 = some fn42 := by kernel_rfl
theorem cfn43 : cFn Try.prog an43 Try.f43 = some fn43 := by kernel_rfl
theorem cfn44 : cFn Try.prog an44 Try.f44 = some fn44 := by kernel_rfl
theorem cfn45 : cFn Try.prog an45 Try.f45 = some fn45 := by kernel_rfl
theorem cfn46 : cFn Try.prog an46 Try.f46 = some fn46 := by kernel_rfl
theorem cfn50 : cFn Try.prog an50 Try.f50 = some fn50 := by kernel_rfl
theorem cfn51 : cFn Try.prog an51 Try.f51 = some fn51 := by kernel_rfl
theorem cfn52 : cFn Try.prog an52 Try.f52 = some fn52 := by kernel_rfl
theorem cfn53 : cFn Try.prog an53 Try.f53 = some fn53 := by kernel_rfl
theorem cfn54 : cFn Try.prog an54 Try.f54 = some fn54 := by kernel_rfl
theorem cfn55 : cFn Try.prog an55 Try.f55 = some fn55 := by kernel_rfl
theorem cfn56 : cFn Try.prog an56 Try.f56 = some fn56 := by kernel_rfl
theorem cfn57 : cFn Try.prog an57 Try.f57 = some fn57 := by kernel_rfl
theorem cfn58 : cFn Try.prog an58 Try.f58 = some fn58 := by kernel_rfl
theorem cfn59 : cFn Try.prog an59 Try.f59 = some fn59 := by kernel_rfl
theorem cfn60 : cFn Try.prog an60 Try.f60 = some fn60 := by kernel_rfl
theorem cfn61 : cFn Try.prog an61 Try.f61 = some fn61 := by kernel_rfl
theorem cfn62 : cFn Try.prog an62 Try.f62 = some fn62 := by kernel_rfl
theorem cfn63 : cFn Try.prog an63 Try.f63 = some fn63 := by kernel_rfl
theorem cfn64 : cFn Try.prog an64 Try.f64 = some ⟨3, insCd 2 48 88 [.nsl, .nsl], [.t 6]⟩ := by kernel_rfl
theorem cfn65 : cFn Try.prog an65 Try.f65 = some fn65 := by kernel_rfl
theorem cfn66 : cFn Try.prog an66 Try.f66 = some fn66 := by kernel_rfl
theorem cfn67 : cFn Try.prog an67 Try.f67 = some fn67 := by kernel_rfl
theorem cfn68 : cFn Try.prog an68 Try.f68 = some fn68 := by kernel_rfl
theorem cfn69 : cFn Try.prog an69 Try.f69 = some fn69 := by kernel_rfl
theorem cfn70 : cFn Try.prog an70 Try.f70 = some fn70 := by kernel_rfl
theorem cfn71 : cFn Try.prog an71 Try.f71 = some fn71 := by kernel_rfl
theorem cfn72 : cFn Try.prog an72 Try.f72 = some fn72 := by kernel_rfl
theorem cfn73 : cFn Try.prog an73 Try.f73 = some fn73 := by kernel_rfl
theorem cfn74 : cFn Try.prog an74 Try.f74 = some fn74 := by kernel_rfl
theorem cfn75 : cFn Try.prog an75 Try.f75 = some fn75 := by kernel_rfl
theorem cfn76 : cFn Try.prog an76 Try.f76 = some fn76 := by kernel_rfl
theorem cfn77 : cFn Try.prog an77 Try.f77 = some fn77 := by kernel_rfl
theorem cfn78 : cFn Try.prog an78 Try.f78 = some fn78 := by kernel_rfl
theorem cfn79 : cFn Try.prog an79 Try.f79 = some fn79 := by kernel_rfl
theorem cfn80 : cFn Try.prog an80 Try.f80 = some fn80 := by kernel_rfl
theorem cfn81 : cFn Try.prog an81 Try.f81 = some fn81 := by kernel_rfl
theorem cfn82 : cFn Try.prog an82 Try.f82 = some fn82 := by kernel_rfl
theorem cfn83 : cFn Try.prog an83 Try.f83 = some fn83 := by kernel_rfl
theorem cfn84 : cFn Try.prog an84 Try.f84 = some fn84 := by kernel_rfl
theorem cfn85 : cFn Try.prog an85 Try.f85 = some fn85 := by kernel_rfl
theorem cfn86 : cFn Try.prog an86 Try.f86 = some fn86 := by kernel_rfl
theorem cfn88 : cFn Try.prog an88 Try.f88 = some fn88 := by kernel_rfl
theorem cfn89 : cFn Try.prog an89 Try.f89 = some fn89 := by kernel_rfl
theorem cfn90 : cFn Try.prog an90 Try.f90 = some fn90 := by kernel_rfl
theorem cfn92 : cFn Try.prog an92 Try.f92 = some fn92 := by kernel_rfl
theorem cfn93 : cFn Try.prog an93 Try.f93 = some fn93 := by kernel_rfl
theorem cfn94 : cFn Try.prog an94 Try.f94 = some fn94 := by kernel_rfl
theorem cfn95 : cFn Try.prog an95 Try.f95 = some fn95 := by kernel_rfl
theorem cfn96 : cFn Try.prog an96 Try.f96 = some fn96 := by kernel_rfl
theorem cfn98 : cFn Try.prog an98 Try.f98 = some fn98 := by kernel_rfl
theorem cfn99 : cFn Try.prog an99 Try.f99 = some fn99 := by kernel_rfl
theorem cfn100 : cFn Try.prog an100 Try.f100 = some fn100 := by kernel_rfl
theorem cfn101 : cFn Try.prog an101 Try.f101 = some fn101 := by kernel_rfl
theorem mixed : Try.prog.follows .mixedOrders = true := by kernel_rfl

theorem pgOk : PgOk Try.prog pg := by
  intro f fn h
  unfold pg at h
  split at h
  · cases h; exact .inl ⟨Try.f3, an3, Try.func3, of_decide_eq_true (by kernel_rfl), cfn3⟩
  · cases h; exact .inl ⟨Try.f6, an6, Try.func6, of_decide_eq_true (by kernel_rfl), cfn6⟩
  · cases h; exact .inl ⟨Try.f8, an8, Try.func8, of_decide_eq_true (by kernel_rfl), cfn8⟩
  · cases h; exact .inl ⟨Try.f9, an9, Try.func9, of_decide_eq_true (by kernel_rfl), cfn9⟩
  · cases h; exact .inl ⟨Try.f10, an10, Try.func10, of_decide_eq_true (by kernel_rfl), cfn10⟩
  · cases h; exact .inl ⟨Try.f11, an11, Try.func11, of_decide_eq_true (by kernel_rfl), cfn11⟩
  · cases h; exact .inl ⟨Try.f14, an14, Try.func14, of_decide_eq_true (by kernel_rfl), cfn14⟩
  · cases h; exact .inl ⟨Try.f15, an15, Try.func15, of_decide_eq_true (by kernel_rfl), cfn15⟩
  · cases h; exact .inl ⟨Try.f16, an16, Try.func16, of_decide_eq_true (by kernel_rfl), cfn16⟩
  · cases h; exact .inl ⟨Try.f17, an17, Try.func17, of_decide_eq_true (by kernel_rfl), cfn17⟩
  · cases h; exact .inl ⟨Try.f19, an19, Try.func19, of_decide_eq_true (by kernel_rfl), cfn19⟩
  · cases h; exact .inl ⟨Try.f20, an20, Try.func20, of_decide_eq_true (by kernel_rfl), cfn20⟩
  · cases h; exact .inl ⟨Try.f21, an21, Try.func21, of_decide_eq_true (by kernel_rfl), cfn21⟩
  · cases h; exact .inl ⟨Try.f22, an22, Try.func22, of_decide_eq_true (by kernel_rfl), cfn22⟩
  · cases h; exact .inl ⟨Try.f23, an23, Try.func23, of_decide_eq_true (by kernel_rfl), cfn23⟩
  · cases h; exact .inl ⟨Try.f24, an24, Try.func24, of_decide_eq_true (by kernel_rfl), cfn24⟩
  · cases h; exact .inl ⟨Try.f25, an25, Try.func25, of_decide_eq_true (by kernel_rfl), cfn25⟩
  · cases h; exact .inl ⟨Try.f26, an26, Try.func26, of_decide_eq_true (by kernel_rfl), cfn26⟩
  · cases h; exact .inl ⟨Try.f27, an27, Try.func27, of_decide_eq_true (by kernel_rfl), cfn27⟩
  · cases h; exact .inl ⟨Try.f28, an28, Try.func28, of_decide_eq_true (by kernel_rfl), cfn28⟩
  · cases h; exact .inl ⟨Try.f29, an29, Try.func29, of_decide_eq_true (by kernel_rfl), cfn29⟩
  · cases h; exact .inl ⟨Try.f30, an30, Try.func30, of_decide_eq_true (by kernel_rfl), cfn30⟩
  · cases h; exact .inl ⟨Try.f31, an31, Try.func31, of_decide_eq_true (by kernel_rfl), cfn31⟩
  · cases h; exact .inl ⟨Try.f32, an32, Try.func32, of_decide_eq_true (by kernel_rfl), cfn32⟩
  · cases h; exact .inl ⟨Try.f33, an33, Try.func33, of_decide_eq_true (by kernel_rfl), cfn33⟩
  · cases h; exact .inl ⟨Try.f34, an34, Try.func34, of_decide_eq_true (by kernel_rfl), cfn34⟩
  · cases h; exact .inl ⟨Try.f35, an35, Try.func35, of_decide_eq_true (by kernel_rfl), cfn35⟩
  · cases h; exact .inl ⟨Try.f36, an36, Try.func36, of_decide_eq_true (by kernel_rfl), cfn36⟩
  · cases h; exact .inl ⟨Try.f37, an37, Try.func37, of_decide_eq_true (by kernel_rfl), cfn37⟩
  · cases h; exact .inl ⟨Try.f38, an38, Try.func38, of_decide_eq_true (by kernel_rfl), cfn38⟩
  · cases h; exact .inl ⟨Try.f39, an39, Try.func39, of_decide_eq_true (by kernel_rfl), cfn39⟩
  · cases h; exact .inl ⟨Try.f40, an40, Try.func40, of_decide_eq_true (by kernel_rfl), cfn40⟩
  · cases h; exact .inl ⟨Try.f41, an41, Try.func41, of_decide_eq_true (by kernel_rfl), cfn41⟩
  · cases h; exact .inl ⟨Try.f42, an42, Try.func42, of_decide_eq_true (by kernel_rfl), cfn42⟩
  · cases h; exact .inl ⟨Try.f43, an43, Try.func43, of_decide_eq_true (by kernel_rfl), cfn43⟩
  · cases h; exact .inl ⟨Try.f44, an44, Try.func44, of_decide_eq_true (by kernel_rfl), cfn44⟩
  · cases h; exact .inl ⟨Try.f45, an45, Try.func45, of_decide_eq_true (by kernel_rfl), cfn45⟩
  · cases h; exact .inl ⟨Try.f46, an46, Try.func46, of_decide_eq_true (by kernel_rfl), cfn46⟩
  · cases h; exact .inl ⟨Try.f50, an50, Try.func50, of_decide_eq_true (by kernel_rfl), cfn50⟩
  · cases h; exact .inl ⟨Try.f51, an51, Try.func51, of_decide_eq_true (by kernel_rfl), cfn51⟩
  · cases h; exact .inl ⟨Try.f52, an52, Try.func52, of_decide_eq_true (by kernel_rfl), cfn52⟩
  · cases h; exact .inl ⟨Try.f53, an53, Try.func53, of_decide_eq_true (by kernel_rfl), cfn53⟩
  · cases h; exact .inl ⟨Try.f54, an54, Try.func54, of_decide_eq_true (by kernel_rfl), cfn54⟩
  · cases h; exact .inl ⟨Try.f55, an55, Try.func55, of_decide_eq_true (by kernel_rfl), cfn55⟩
  · cases h; exact .inl ⟨Try.f56, an56, Try.func56, of_decide_eq_true (by kernel_rfl), cfn56⟩
  · cases h; exact .inl ⟨Try.f57, an57, Try.func57, of_decide_eq_true (by kernel_rfl), cfn57⟩
  · cases h; exact .inl ⟨Try.f58, an58, Try.func58, of_decide_eq_true (by kernel_rfl), cfn58⟩
  · cases h; exact .inl ⟨Try.f59, an59, Try.func59, of_decide_eq_true (by kernel_rfl), cfn59⟩
  · cases h; exact .inl ⟨Try.f60, an60, Try.func60, of_decide_eq_true (by kernel_rfl), cfn60⟩
  · cases h; exact .inl ⟨Try.f61, an61, Try.func61, of_decide_eq_true (by kernel_rfl), cfn61⟩
  · cases h; exact .inl ⟨Try.f62, an62, Try.func62, of_decide_eq_true (by kernel_rfl), cfn62⟩
  · cases h; exact .inl ⟨Try.f63, an63, Try.func63, of_decide_eq_true (by kernel_rfl), cfn63⟩
  · cases h; exact .inr (insV_spec mixed ⟨Try.f64, an64, Try.func64, of_decide_eq_true (by kernel_rfl), cfn64⟩ (by decide) (by decide) rfl)
  · cases h; exact .inl ⟨Try.f65, an65, Try.func65, of_decide_eq_true (by kernel_rfl), cfn65⟩
  · cases h; exact .inl ⟨Try.f66, an66, Try.func66, of_decide_eq_true (by kernel_rfl), cfn66⟩
  · cases h; exact .inl ⟨Try.f67, an67, Try.func67, of_decide_eq_true (by kernel_rfl), cfn67⟩
  · cases h; exact .inl ⟨Try.f68, an68, Try.func68, of_decide_eq_true (by kernel_rfl), cfn68⟩
  · cases h; exact .inl ⟨Try.f69, an69, Try.func69, of_decide_eq_true (by kernel_rfl), cfn69⟩
  · cases h; exact .inl ⟨Try.f70, an70, Try.func70, of_decide_eq_true (by kernel_rfl), cfn70⟩
  · cases h; exact .inl ⟨Try.f71, an71, Try.func71, of_decide_eq_true (by kernel_rfl), cfn71⟩
  · cases h; exact .inl ⟨Try.f72, an72, Try.func72, of_decide_eq_true (by kernel_rfl), cfn72⟩
  · cases h; exact .inl ⟨Try.f73, an73, Try.func73, of_decide_eq_true (by kernel_rfl), cfn73⟩
  · cases h; exact .inl ⟨Try.f74, an74, Try.func74, of_decide_eq_true (by kernel_rfl), cfn74⟩
  · cases h; exact .inl ⟨Try.f75, an75, Try.func75, of_decide_eq_true (by kernel_rfl), cfn75⟩
  · cases h; exact .inl ⟨Try.f76, an76, Try.func76, of_decide_eq_true (by kernel_rfl), cfn76⟩
  · cases h; exact .inl ⟨Try.f77, an77, Try.func77, of_decide_eq_true (by kernel_rfl), cfn77⟩
  · cases h; exact .inl ⟨Try.f78, an78, Try.func78, of_decide_eq_true (by kernel_rfl), cfn78⟩
  · cases h; exact .inl ⟨Try.f79, an79, Try.func79, of_decide_eq_true (by kernel_rfl), cfn79⟩
  · cases h; exact .inl ⟨Try.f80, an80, Try.func80, of_decide_eq_true (by kernel_rfl), cfn80⟩
  · cases h; exact .inl ⟨Try.f81, an81, Try.func81, of_decide_eq_true (by kernel_rfl), cfn81⟩
  · cases h; exact .inl ⟨Try.f82, an82, Try.func82, of_decide_eq_true (by kernel_rfl), cfn82⟩
  · cases h; exact .inl ⟨Try.f83, an83, Try.func83, of_decide_eq_true (by kernel_rfl), cfn83⟩
  · cases h; exact .inl ⟨Try.f84, an84, Try.func84, of_decide_eq_true (by kernel_rfl), cfn84⟩
  · cases h; exact .inl ⟨Try.f85, an85, Try.func85, of_decide_eq_true (by kernel_rfl), cfn85⟩
  · cases h; exact .inl ⟨Try.f86, an86, Try.func86, of_decide_eq_true (by kernel_rfl), cfn86⟩
  · cases h; exact .inl ⟨Try.f88, an88, Try.func88, of_decide_eq_true (by kernel_rfl), cfn88⟩
  · cases h; exact .inl ⟨Try.f89, an89, Try.func89, of_decide_eq_true (by kernel_rfl), cfn89⟩
  · cases h; exact .inl ⟨Try.f90, an90, Try.func90, of_decide_eq_true (by kernel_rfl), cfn90⟩
  · cases h; exact .inl ⟨Try.f92, an92, Try.func92, of_decide_eq_true (by kernel_rfl), cfn92⟩
  · cases h; exact .inl ⟨Try.f93, an93, Try.func93, of_decide_eq_true (by kernel_rfl), cfn93⟩
  · cases h; exact .inl ⟨Try.f94, an94, Try.func94, of_decide_eq_true (by kernel_rfl), cfn94⟩
  · cases h; exact .inl ⟨Try.f95, an95, Try.func95, of_decide_eq_true (by kernel_rfl), cfn95⟩
  · cases h; exact .inl ⟨Try.f96, an96, Try.func96, of_decide_eq_true (by kernel_rfl), cfn96⟩
  · cases h; exact .inl ⟨Try.f98, an98, Try.func98, of_decide_eq_true (by kernel_rfl), cfn98⟩
  · cases h; exact .inl ⟨Try.f99, an99, Try.func99, of_decide_eq_true (by kernel_rfl), cfn99⟩
  · cases h; exact .inl ⟨Try.f100, an100, Try.func100, of_decide_eq_true (by kernel_rfl), cfn100⟩
  · cases h; exact .inl ⟨Try.f101, an101, Try.func101, of_decide_eq_true (by kernel_rfl), cfn101⟩
  · cases h
end Go.Proofs.Ytdeennacdlpheaa
