import Derived.Test.YtgligngmbkkkkaaMxR
import Derived.KernelRfl
import Derived.Test.YtgligngmbkkkkaaChecked
/-
  The functions of this chapter in the machine's code, and that the given program's code is this one. Printed by a program of this repo (gencodes.py).
-/
namespace Go.Mx
open Go

/-- coinage/coinagelaw10.AxisDistances -/
def c3 : MF := ⟨(.seq (.ops [⟨none, .asg 6 (.c (.v (.bool false)))⟩])
 (.seq (.seq (.ops [⟨none, .call (some 7) 12 []⟩,
    ⟨none, .un 8 .not (.t 7)⟩])
  (.cnd (.t 8)
   (.seq (.ops [⟨none, .asg 6 (.c (.v (.bool false)))⟩])
   .ret)
   .skip))
 (.seq (.seq (.ops [⟨none, .mv 9 (.t 0)⟩,
    ⟨none, .mv 10 (.t 1)⟩,
    ⟨none, .call (some 11) 13 [(.t 9), (.t 10)]⟩,
    ⟨none, .mv 12 (.t 0)⟩,
    ⟨none, .mv 13 (.t 1)⟩,
    ⟨none, .call (some 14) 14 [(.t 12), (.t 13)]⟩,
    ⟨none, .bin 15 .neq .num (.t 11) (.t 14)⟩,
    ⟨none, .mv 16 (.t 15)⟩,
    ⟨some (16, false), .mv 17 (.t 0)⟩,
    ⟨some (16, false), .mv 18 (.t 1)⟩,
    ⟨some (16, false), .call (some 19) 13 [(.t 17), (.t 18)]⟩,
    ⟨some (16, false), .mv 20 (.t 1)⟩,
    ⟨some (16, false), .mv 21 (.t 0)⟩,
    ⟨some (16, false), .call (some 22) 13 [(.t 20), (.t 21)]⟩,
    ⟨some (16, false), .bin 23 .neq .num (.t 19) (.t 22)⟩,
    ⟨none, .pick 24 (.t 16) (.c (.v (.bool true))) (.t 23)⟩])
  (.cnd (.t 24)
   (.seq (.ops [⟨none, .asg 6 (.c (.v (.bool false)))⟩])
   .ret)
   .skip))
 (.seq (.ops [⟨none, .mv 25 (.t 0)⟩,
   ⟨none, .call (some 26) 15 [(.t 25), (.c (.v (.int .i64 12)))]⟩,
   ⟨none, .mv 27 (.t 1)⟩,
   ⟨none, .call (some 28) 15 [(.t 27), (.c (.v (.int .i64 12)))]⟩,
   ⟨none, .mv 29 (.t 2)⟩,
   ⟨none, .call (some 30) 15 [(.t 29), (.c (.v (.int .i64 12)))]⟩,
   ⟨none, .asg 0 (.t 26)⟩,
   ⟨none, .asg 1 (.t 28)⟩,
   ⟨none, .asg 2 (.t 30)⟩])
 (.seq (.ops [⟨none, .mv 31 (.t 0)⟩,
   ⟨none, .mv 32 (.t 2)⟩,
   ⟨none, .call (some 33) 13 [(.t 31), (.t 32)]⟩,
   ⟨none, .mv 34 (.t 0)⟩,
   ⟨none, .mv 35 (.t 1)⟩,
   ⟨none, .call (some 36) 13 [(.t 34), (.t 35)]⟩,
   ⟨none, .mv 37 (.t 1)⟩,
   ⟨none, .mv 38 (.t 2)⟩,
   ⟨none, .call (some 39) 13 [(.t 37), (.t 38)]⟩,
   ⟨none, .bin 40 .add .num (.t 36) (.t 39)⟩,
   ⟨none, .bin 41 .leq .num (.t 33) (.t 40)⟩,
   ⟨none, .mv 42 (.t 41)⟩,
   ⟨some (42, true), .mv 43 (.t 0)⟩,
   ⟨some (42, true), .mv 44 (.t 1)⟩,
   ⟨some (42, true), .call (some 45) 13 [(.t 43), (.t 44)]⟩,
   ⟨some (42, true), .bin 46 .eql .num (.t 45) (.c (.v (.int .i64 0)))⟩,
   ⟨some (42, true), .mv 47 (.t 0)⟩,
   ⟨some (42, true), .mv 48 (.t 1)⟩,
   ⟨some (42, true), .bin 49 .eql .num (.t 47) (.t 48)⟩,
   ⟨some (42, true), .bin 50 .eql .bool (.t 46) (.t 49)⟩,
   ⟨none, .pick 51 (.t 42) (.t 50) (.c (.v (.bool false)))⟩,
   ⟨none, .mv 52 (.t 51)⟩,
   ⟨some (52, true), .mv 53 (.t 0)⟩,
   ⟨some (52, true), .mv 54 (.t 1)⟩,
   ⟨some (52, true), .call (some 55) 13 [(.t 53), (.t 54)]⟩,
   ⟨some (52, true), .bin 56 .leq .num (.t 55) (.c (.v (.int .i64 6)))⟩,
   ⟨none, .pick 57 (.t 52) (.t 56) (.c (.v (.bool false)))⟩,
   ⟨none, .asg 6 (.t 57)⟩])
 .ret))))),
  58, [6]⟩

/-- coinage/coinagelaw10.awake -/
def c12 : MF := ⟨(.seq (.ops [⟨none, .asg 0 (.c (.v (.bool false)))⟩])
 (.seq (.ops [⟨none, .bs 8 1 3 [(.v (.int .i64 0))] [(0, 1, (.c (.v (.int .i64 11)))), (1, 1, (.c (.v (.int .i64 0)))), (2, 1, (.c (.v (.int .i64 2))))]⟩,
   ⟨none, .call (some 9) 17 [(.t 8)]⟩,
   ⟨none, .mv 7 (.t 9)⟩,
   ⟨none, .ext 10 (.t 7) 0⟩,
   ⟨none, .ext 11 (.t 7) 1⟩,
   ⟨none, .ext 12 (.t 7) 2⟩,
   ⟨none, .asg 1 (.t 10)⟩,
   ⟨none, .asg 2 (.t 11)⟩,
   ⟨none, .asg 3 (.t 12)⟩])
 (.seq (.ops [⟨none, .bs 14 1 3 [(.v (.int .i64 0))] [(0, 1, (.c (.v (.int .i64 11)))), (1, 1, (.c (.v (.int .i64 0)))), (2, 1, (.c (.v (.int .i64 2))))]⟩,
   ⟨none, .call (some 15) 19 [(.t 14)]⟩,
   ⟨none, .mv 13 (.t 15)⟩,
   ⟨none, .ext 16 (.t 13) 0⟩,
   ⟨none, .ext 17 (.t 13) 1⟩,
   ⟨none, .ext 18 (.t 13) 2⟩,
   ⟨none, .asg 4 (.t 16)⟩,
   ⟨none, .asg 5 (.t 17)⟩,
   ⟨none, .asg 6 (.t 18)⟩])
 (.seq (.ops [⟨none, .call (some 19) 13 [(.c (.v (.int .i64 11))), (.c (.v (.int .i64 1)))]⟩,
   ⟨none, .bin 20 .eql .num (.t 19) (.c (.v (.int .i64 2)))⟩,
   ⟨none, .mv 21 (.t 20)⟩,
   ⟨some (21, true), .mv 22 (.t 3)⟩,
   ⟨some (21, true), .bin 23 .eql .num (.t 22) (.c (.v (.int .i64 0)))⟩,
   ⟨none, .pick 24 (.t 21) (.t 23) (.c (.v (.bool false)))⟩,
   ⟨none, .mv 25 (.t 24)⟩,
   ⟨some (25, true), .mv 26 (.t 1)⟩,
   ⟨some (25, true), .bin 27 .eql .num (.t 26) (.c (.v (.int .i64 11)))⟩,
   ⟨none, .pick 28 (.t 25) (.t 27) (.c (.v (.bool false)))⟩,
   ⟨none, .mv 29 (.t 28)⟩,
   ⟨some (29, true), .mv 30 (.t 2)⟩,
   ⟨some (29, true), .bin 31 .eql .num (.t 30) (.c (.v (.int .i64 4)))⟩,
   ⟨none, .pick 32 (.t 29) (.t 31) (.c (.v (.bool false)))⟩,
   ⟨none, .mv 33 (.t 32)⟩,
   ⟨some (33, true), .mv 34 (.t 6)⟩,
   ⟨some (33, true), .bin 35 .eql .num (.t 34) (.c (.v (.int .i64 0)))⟩,
   ⟨none, .pick 36 (.t 33) (.t 35) (.c (.v (.bool false)))⟩,
   ⟨none, .mv 37 (.t 36)⟩,
   ⟨some (37, true), .mv 38 (.t 4)⟩,
   ⟨some (37, true), .bin 39 .eql .num (.t 38) (.c (.v (.int .i64 0)))⟩,
   ⟨none, .pick 40 (.t 37) (.t 39) (.c (.v (.bool false)))⟩,
   ⟨none, .mv 41 (.t 40)⟩,
   ⟨some (41, true), .mv 42 (.t 5)⟩,
   ⟨some (41, true), .bin 43 .eql .num (.t 42) (.c (.v (.int .i64 3)))⟩,
   ⟨none, .pick 44 (.t 41) (.t 43) (.c (.v (.bool false)))⟩,
   ⟨none, .asg 0 (.t 44)⟩])
 .ret)))),
  45, [0]⟩

/-- coinage/axis.Distance -/
def c13 : MF := ⟨(.seq (.ops [⟨none, .asg 4 (.c (.v (.int .i64 0)))⟩])
 (.seq (.seq (.ops [⟨none, .mv 5 (.t 0)⟩,
    ⟨none, .call (some 6) 31 [(.t 5)]⟩,
    ⟨none, .un 7 .not (.t 6)⟩,
    ⟨none, .mv 8 (.t 7)⟩,
    ⟨some (8, false), .mv 9 (.t 1)⟩,
    ⟨some (8, false), .call (some 10) 31 [(.t 9)]⟩,
    ⟨some (8, false), .un 11 .not (.t 10)⟩,
    ⟨none, .pick 12 (.t 8) (.c (.v (.bool true))) (.t 11)⟩])
  (.cnd (.t 12)
   (.seq (.ops [⟨none, .asg 4 (.c (.v (.int .i64 (-1))))⟩])
   .ret)
   .skip))
 (.seq (.ops [⟨none, .mv 13 (.t 0)⟩,
   ⟨none, .mv 14 (.t 1)⟩,
   ⟨none, .call (some 15) 32 [(.t 13), (.t 14)]⟩,
   ⟨none, .asg 4 (.t 15)⟩])
 .ret))),
  16, [4]⟩

/-- coinage/coinageref10.Distance -/
def c14 : MF := ⟨(.seq (.ops [⟨none, .asg 4 (.c (.v (.int .i64 0)))⟩])
 (.seq (.seq (.ops [⟨none, .mv 6 (.t 0)⟩,
    ⟨none, .call (some 7) 21 [(.t 6), (.c (.v (.int .i64 0))), (.c (.v (.int .i64 11)))]⟩,
    ⟨none, .un 8 .not (.t 7)⟩,
    ⟨none, .mv 9 (.t 8)⟩,
    ⟨some (9, false), .mv 10 (.t 1)⟩,
    ⟨some (9, false), .call (some 11) 21 [(.t 10), (.c (.v (.int .i64 0))), (.c (.v (.int .i64 11)))]⟩,
    ⟨some (9, false), .un 12 .not (.t 11)⟩,
    ⟨none, .pick 13 (.t 9) (.c (.v (.bool true))) (.t 12)⟩])
  (.cnd (.t 13)
   (.seq (.ops [⟨none, .asg 4 (.c (.v (.int .i64 (-1))))⟩])
   .ret)
   .skip))
 (.seq (.ops [⟨none, .mv 14 (.t 0)⟩,
   ⟨none, .mv 15 (.t 1)⟩,
   ⟨none, .bin 16 .sub .num (.t 14) (.t 15)⟩,
   ⟨none, .call (some 17) 15 [(.t 16), (.c (.v (.int .i64 12)))]⟩,
   ⟨none, .asg 5 (.t 17)⟩])
 (.seq (.ops [⟨none, .mv 18 (.t 5)⟩,
   ⟨none, .mv 19 (.t 5)⟩,
   ⟨none, .bin 20 .sub .num (.c (.v (.int .i64 12))) (.t 19)⟩,
   ⟨none, .mm 21 false (.t 18) (.t 20)⟩,
   ⟨none, .asg 4 (.t 21)⟩])
 .ret)))),
  22, [4]⟩

/-- coinage/coinagebase.Mod -/
def c15 : MF := ⟨(.seq (.ops [⟨none, .asg 4 (.c (.v (.int .i64 0)))⟩])
 (.seq (.ops [⟨none, .mv 6 (.t 0)⟩,
   ⟨none, .mv 7 (.t 1)⟩,
   ⟨none, .bin 8 .rem .num (.t 6) (.t 7)⟩,
   ⟨none, .asg 5 (.t 8)⟩])
 (.seq (.seq (.ops [⟨none, .mv 9 (.t 5)⟩,
    ⟨none, .bin 10 .lss .num (.t 9) (.c (.v (.int .i64 0)))⟩])
  (.cnd (.t 10)
   (.ops [⟨none, .mv 11 (.t 5)⟩,
    ⟨none, .mv 12 (.t 1)⟩,
    ⟨none, .bin 13 .add .num (.t 11) (.t 12)⟩,
    ⟨none, .asg 5 (.t 13)⟩])
   .skip))
 (.seq (.ops [⟨none, .mv 14 (.t 5)⟩,
   ⟨none, .asg 4 (.t 14)⟩])
 .ret)))),
  15, [4]⟩

/-- coinage/axis.Arc -/
def c17 : MF := ⟨(.seq (.ops [⟨none, .asg 2 (.c (.v (.int .i64 0)))⟩,
   ⟨none, .asg 3 (.c (.v (.int .i64 0)))⟩,
   ⟨none, .asg 4 (.c (.v (.int .i64 0)))⟩])
 (.seq (.seq (.ops [⟨none, .mv 8 (.t 0)⟩,
    ⟨none, .call (some 9) 33 [(.t 8)]⟩,
    ⟨none, .asg 5 (.t 9)⟩])
  (.seq (.ops [⟨none, .mv 10 (.t 5)⟩,
    ⟨none, .bin 11 .neq .num (.t 10) (.c (.v (.int .i64 0)))⟩])
  (.cnd (.t 11)
   (.seq (.ops [⟨none, .mv 12 (.t 5)⟩,
     ⟨none, .asg 2 (.c (.v (.int .i64 0)))⟩,
     ⟨none, .asg 3 (.c (.v (.int .i64 0)))⟩,
     ⟨none, .asg 4 (.t 12)⟩])
   .ret)
   .skip)))
 (.seq (.seq (.ops [⟨none, .asg 6 (.c (.v (.int .i64 1)))⟩])
  (.blk 0 (.lop (.seq (.scr [])
   (.seq (.seq (.ops [⟨none, .mv 13 (.t 6)⟩,
      ⟨none, .bin 14 .lss .num (.t 13) (.c (.v (.int .i64 12)))⟩])
    (.cnd (.t 14)
     .skip
     (.ex 0)))
   (.seq (.blk 1 (.seq (.ops [⟨none, .mv 17 (.c (.v (.int .i64 0)))⟩])
    (.blk 2 (.lop (.seq (.scr [])
     (.seq (.ops [⟨none, .bin 18 .lss .num (.t 17) (.c (.v (.int .i64 12)))⟩])
     (.seq (.cnd (.t 18)
       .skip
       (.ex 2))
     (.seq (.blk 3 (.seq (.ops [⟨none, .mv 19 (.t 17)⟩,
        ⟨none, .asg 7 (.t 19)⟩])
      (.seq (.ops [⟨none, .mv 20 (.t 0)⟩,
        ⟨none, .mv 21 (.t 7)⟩,
        ⟨none, .mv 22 (.t 6)⟩,
        ⟨none, .call (some 23) 34 [(.t 20), (.t 21), (.t 22)]⟩,
        ⟨none, .mv 24 (.t 0)⟩,
        ⟨none, .len 25 false (.t 24)⟩,
        ⟨none, .bin 26 .eql .num (.t 23) (.t 25)⟩])
      (.cnd (.t 26)
       (.seq (.ops [⟨none, .mv 27 (.t 7)⟩,
         ⟨none, .mv 28 (.t 6)⟩,
         ⟨none, .asg 2 (.t 27)⟩,
         ⟨none, .asg 3 (.t 28)⟩,
         ⟨none, .asg 4 (.c (.v (.int .i64 0)))⟩])
       .ret)
       .skip))))
     (.ops [⟨none, .bin 29 .add .num (.t 17) (.c (.v (.int .i64 1)))⟩,
      ⟨none, .mv 17 (.t 29)⟩])))))))))
   (.ops [⟨none, .mv 15 (.t 6)⟩,
    ⟨none, .bin 16 .add .num (.t 15) (.c (.v (.int .i64 1)))⟩,
    ⟨none, .asg 6 (.t 16)⟩])))))))
 (.seq (.ops [⟨none, .asg 2 (.c (.v (.int .i64 0)))⟩,
   ⟨none, .asg 3 (.c (.v (.int .i64 12)))⟩,
   ⟨none, .asg 4 (.c (.v (.int .i64 0)))⟩])
 .ret)))),
  30, [2, 3, 4]⟩

/-- coinage/axis.Median -/
def c19 : MF := ⟨(.seq (.ops [⟨none, .asg 2 (.c (.v (.int .i64 0)))⟩,
   ⟨none, .asg 3 (.c (.v (.int .i64 0)))⟩,
   ⟨none, .asg 4 (.c (.v (.int .i64 0)))⟩])
 (.seq (.seq (.ops [⟨none, .mv 12 (.t 0)⟩,
    ⟨none, .call (some 13) 33 [(.t 12)]⟩,
    ⟨none, .asg 5 (.t 13)⟩])
  (.seq (.ops [⟨none, .mv 14 (.t 5)⟩,
    ⟨none, .bin 15 .neq .num (.t 14) (.c (.v (.int .i64 0)))⟩])
  (.cnd (.t 15)
   (.seq (.ops [⟨none, .mv 16 (.t 5)⟩,
     ⟨none, .asg 2 (.c (.v (.int .i64 0)))⟩,
     ⟨none, .asg 3 (.c (.v (.int .i64 0)))⟩,
     ⟨none, .asg 4 (.t 16)⟩])
   .ret)
   .skip)))
 (.seq (.ops [⟨none, .asg 6 (.c (.v (.int .i64 0)))⟩,
   ⟨none, .asg 7 (.c (.v (.int .i64 (-1))))⟩])
 (.seq (.seq (.ops [⟨none, .mv 17 (.c (.v (.int .i64 0)))⟩])
  (.blk 0 (.lop (.seq (.scr [])
   (.seq (.ops [⟨none, .bin 18 .lss .num (.t 17) (.c (.v (.int .i64 12)))⟩])
   (.seq (.cnd (.t 18)
     .skip
     (.ex 0))
   (.seq (.blk 1 (.seq (.ops [⟨none, .mv 19 (.t 17)⟩,
      ⟨none, .asg 8 (.t 19)⟩])
    (.seq (.ops [⟨none, .asg 9 (.c (.v (.int .i64 0)))⟩])
    (.seq (.seq (.ops [⟨none, .mv 20 (.t 0)⟩,
       ⟨none, .len 21 false (.t 20)⟩,
       ⟨none, .mv 22 (.c (.v (.int .i64 0)))⟩])
     (.blk 2 (.lop (.seq (.scr [])
      (.seq (.ops [⟨none, .bin 23 .lss .num (.t 22) (.t 21)⟩])
      (.seq (.cnd (.t 23)
        .skip
        (.ex 2))
      (.seq (.blk 3 (.seq (.ops [⟨none, .ixs 24 1 (.t 20) (.t 22)⟩,
         ⟨none, .ld1 25 (.t 24)⟩,
         ⟨none, .asg 11 (.t 25)⟩])
       (.ops [⟨none, .mv 26 (.t 9)⟩,
        ⟨none, .mv 27 (.t 8)⟩,
        ⟨none, .mv 28 (.t 11)⟩,
        ⟨none, .call (some 29) 32 [(.t 27), (.t 28)]⟩,
        ⟨none, .bin 30 .add .num (.t 26) (.t 29)⟩,
        ⟨none, .asg 9 (.t 30)⟩])))
      (.ops [⟨none, .bin 31 .add .num (.t 22) (.c (.v (.int .i64 1)))⟩,
       ⟨none, .mv 22 (.t 31)⟩]))))))))
    (.seq (.ops [⟨none, .mv 32 (.t 7)⟩,
      ⟨none, .bin 33 .lss .num (.t 32) (.c (.v (.int .i64 0)))⟩,
      ⟨none, .mv 34 (.t 33)⟩,
      ⟨some (34, false), .mv 35 (.t 9)⟩,
      ⟨some (34, false), .mv 36 (.t 7)⟩,
      ⟨some (34, false), .bin 37 .lss .num (.t 35) (.t 36)⟩,
      ⟨none, .pick 38 (.t 34) (.c (.v (.bool true))) (.t 37)⟩])
    (.cnd (.t 38)
     (.ops [⟨none, .mv 39 (.t 8)⟩,
      ⟨none, .mv 40 (.t 9)⟩,
      ⟨none, .asg 6 (.t 39)⟩,
      ⟨none, .asg 7 (.t 40)⟩])
     .skip))))))
   (.ops [⟨none, .bin 41 .add .num (.t 17) (.c (.v (.int .i64 1)))⟩,
    ⟨none, .mv 17 (.t 41)⟩]))))))))
 (.seq (.ops [⟨none, .mv 42 (.t 6)⟩,
   ⟨none, .mv 43 (.t 7)⟩,
   ⟨none, .asg 2 (.t 42)⟩,
   ⟨none, .asg 3 (.t 43)⟩,
   ⟨none, .asg 4 (.c (.v (.int .i64 0)))⟩])
 .ret))))),
  44, [2, 3, 4]⟩

/-- coinage/coinagebase.In -/
def c21 : MF := ⟨(.seq (.ops [⟨none, .asg 6 (.c (.v (.bool false)))⟩])
 (.seq (.ops [⟨none, .mv 7 (.t 0)⟩,
   ⟨none, .mv 8 (.t 1)⟩,
   ⟨none, .bin 9 .geq .num (.t 7) (.t 8)⟩,
   ⟨none, .mv 10 (.t 9)⟩,
   ⟨some (10, true), .mv 11 (.t 0)⟩,
   ⟨some (10, true), .mv 12 (.t 2)⟩,
   ⟨some (10, true), .bin 13 .leq .num (.t 11) (.t 12)⟩,
   ⟨none, .pick 14 (.t 10) (.t 13) (.c (.v (.bool false)))⟩,
   ⟨none, .asg 6 (.t 14)⟩])
 .ret)),
  15, [6]⟩

/-- coinage/axis.hour -/
def c31 : MF := ⟨(.seq (.ops [⟨none, .asg 2 (.c (.v (.bool false)))⟩])
 (.seq (.ops [⟨none, .mv 3 (.t 0)⟩,
   ⟨none, .bin 4 .geq .num (.t 3) (.c (.v (.int .i64 0)))⟩,
   ⟨none, .mv 5 (.t 4)⟩,
   ⟨some (5, true), .mv 6 (.t 0)⟩,
   ⟨some (5, true), .bin 7 .lss .num (.t 6) (.c (.v (.int .i64 12)))⟩,
   ⟨none, .pick 8 (.t 5) (.t 7) (.c (.v (.bool false)))⟩,
   ⟨none, .asg 2 (.t 8)⟩])
 .ret)),
  9, [2]⟩

/-- coinage/axis.distance -/
def c32 : MF := ⟨(.seq (.ops [⟨none, .asg 4 (.c (.v (.int .i64 0)))⟩])
 (.seq (.ops [⟨none, .mv 6 (.t 1)⟩,
   ⟨none, .mv 7 (.t 0)⟩,
   ⟨none, .un 8 .neg (.t 7)⟩,
   ⟨none, .call (some 9) 41 [(.t 6), (.t 8)]⟩,
   ⟨none, .asg 5 (.t 9)⟩])
 (.seq (.ops [⟨none, .mv 10 (.t 5)⟩,
   ⟨none, .mv 11 (.t 5)⟩,
   ⟨none, .bin 12 .sub .num (.c (.v (.int .i64 12))) (.t 11)⟩,
   ⟨none, .mm 13 false (.t 10) (.t 12)⟩,
   ⟨none, .asg 4 (.t 13)⟩])
 .ret))),
  14, [4]⟩

/-- coinage/axis.filled -/
def c33 : MF := ⟨(.seq (.ops [⟨none, .asg 2 (.c (.v (.int .i64 0)))⟩])
 (.seq (.ops [⟨none, .mv 4 (.t 0)⟩,
   ⟨none, .call (some 5) 39 [(.t 4)]⟩,
   ⟨none, .asg 3 (.t 5)⟩])
 (.seq (.seq (.ops [⟨none, .mv 6 (.t 3)⟩,
    ⟨none, .bin 7 .eql .num (.t 6) (.c (.v (.int .i64 0)))⟩,
    ⟨none, .mv 8 (.t 7)⟩,
    ⟨some (8, true), .mv 9 (.t 0)⟩,
    ⟨some (8, true), .len 10 false (.t 9)⟩,
    ⟨some (8, true), .bin 11 .eql .num (.t 10) (.c (.v (.int .i64 0)))⟩,
    ⟨none, .pick 12 (.t 8) (.t 11) (.c (.v (.bool false)))⟩])
  (.cnd (.t 12)
   (.seq (.ops [⟨none, .asg 2 (.c (.v (.int .i64 7)))⟩])
   .ret)
   .skip))
 (.seq (.ops [⟨none, .mv 13 (.t 3)⟩,
   ⟨none, .asg 2 (.t 13)⟩])
 .ret)))),
  14, [2]⟩

/-- coinage/axis.within -/
def c34 : MF := ⟨(.seq (.ops [⟨none, .asg 6 (.c (.v (.int .i64 0)))⟩])
 (.seq (.ops [⟨none, .asg 7 (.c (.v (.int .i64 0)))⟩])
 (.seq (.seq (.ops [⟨none, .mv 10 (.t 0)⟩,
    ⟨none, .len 11 false (.t 10)⟩,
    ⟨none, .mv 12 (.c (.v (.int .i64 0)))⟩])
  (.blk 0 (.lop (.seq (.scr [])
   (.seq (.ops [⟨none, .bin 13 .lss .num (.t 12) (.t 11)⟩])
   (.seq (.cnd (.t 13)
     .skip
     (.ex 0))
   (.seq (.blk 1 (.seq (.ops [⟨none, .ixs 14 1 (.t 10) (.t 12)⟩,
      ⟨none, .ld1 15 (.t 14)⟩,
      ⟨none, .asg 9 (.t 15)⟩])
    (.seq (.ops [⟨none, .mv 16 (.t 9)⟩,
      ⟨none, .mv 17 (.t 1)⟩,
      ⟨none, .un 18 .neg (.t 17)⟩,
      ⟨none, .call (some 19) 41 [(.t 16), (.t 18)]⟩,
      ⟨none, .mv 20 (.t 2)⟩,
      ⟨none, .bin 21 .lss .num (.t 19) (.t 20)⟩])
    (.cnd (.t 21)
     (.ops [⟨none, .mv 22 (.t 7)⟩,
      ⟨none, .bin 23 .add .num (.t 22) (.c (.v (.int .i64 1)))⟩,
      ⟨none, .asg 7 (.t 23)⟩])
     .skip))))
   (.ops [⟨none, .bin 24 .add .num (.t 12) (.c (.v (.int .i64 1)))⟩,
    ⟨none, .mv 12 (.t 24)⟩]))))))))
 (.seq (.ops [⟨none, .mv 25 (.t 7)⟩,
   ⟨none, .asg 6 (.t 25)⟩])
 .ret)))),
  26, [6]⟩

/-- slices.ContainsFunc[[]int,int] -/
def c37 : MF := ⟨(.seq (.ops [⟨none, .asg 4 (.c (.v (.bool false)))⟩])
 (.seq (.ops [⟨none, .mv 5 (.t 0)⟩,
   ⟨none, .mv 6 (.t 1)⟩,
   ⟨none, .call (some 7) 42 [(.t 5), (.t 6)]⟩,
   ⟨none, .bin 8 .geq .num (.t 7) (.c (.v (.int .i64 0)))⟩,
   ⟨none, .asg 4 (.t 8)⟩])
 .ret)),
  9, [4]⟩

/-- coinage/axis.check -/
def c39 : MF := ⟨(.seq (.ops [⟨none, .asg 2 (.c (.v (.int .i64 0)))⟩])
 (.seq (.blk 0 (.seq (.ops [⟨none, .mv 4 (.t 0)⟩,
    ⟨none, .len 5 false (.t 4)⟩,
    ⟨none, .bin 6 .gtr .num (.t 5) (.c (.v (.int .i64 64)))⟩,
    ⟨none, .asg 3 (.t 6)⟩])
  (.cnd (.t 3)
   (.seq (.ops [⟨none, .asg 2 (.c (.v (.int .i64 6)))⟩])
   .ret)
   (.seq (.ops [⟨none, .mv 8 (.t 0)⟩,
     ⟨none, .call (some 9) 37 [(.t 8), (.c (.nd (.fn (.func 43) 0) []))]⟩,
     ⟨none, .asg 7 (.t 9)⟩])
   (.cnd (.t 7)
    (.seq (.ops [⟨none, .asg 2 (.c (.v (.int .i64 1)))⟩])
    .ret)
    .skip)))))
 (.seq (.ops [⟨none, .asg 2 (.c (.v (.int .i64 0)))⟩])
 .ret))),
  10, [2]⟩

/-- coinage/axis.turned -/
def c41 : MF := ⟨(.seq (.ops [⟨none, .asg 4 (.c (.v (.int .i64 0)))⟩])
 (.seq (.ops [⟨none, .mv 5 (.t 0)⟩,
   ⟨none, .mv 6 (.t 1)⟩,
   ⟨none, .bin 7 .rem .num (.t 6) (.c (.v (.int .i64 12)))⟩,
   ⟨none, .bin 8 .add .num (.t 5) (.t 7)⟩,
   ⟨none, .bin 9 .rem .num (.t 8) (.c (.v (.int .i64 12)))⟩,
   ⟨none, .bin 10 .add .num (.t 9) (.c (.v (.int .i64 12)))⟩,
   ⟨none, .bin 11 .rem .num (.t 10) (.c (.v (.int .i64 12)))⟩,
   ⟨none, .asg 4 (.t 11)⟩])
 .ret)),
  12, [4]⟩

/-- slices.IndexFunc[[]int,int] -/
def c42 : MF := ⟨(.seq (.ops [⟨none, .asg 4 (.c (.v (.int .i64 0)))⟩])
 (.seq (.seq (.ops [⟨none, .mv 6 (.t 0)⟩,
    ⟨none, .len 7 false (.t 6)⟩,
    ⟨none, .mv 8 (.c (.v (.int .i64 0)))⟩])
  (.blk 0 (.lop (.seq (.scr [])
   (.seq (.ops [⟨none, .bin 9 .lss .num (.t 8) (.t 7)⟩])
   (.seq (.cnd (.t 9)
     .skip
     (.ex 0))
   (.seq (.blk 1 (.seq (.ops [⟨none, .mv 10 (.t 8)⟩,
      ⟨none, .asg 5 (.t 10)⟩])
    (.seq (.ops [⟨none, .mv 11 (.t 1)⟩,
      ⟨none, .mv 12 (.t 0)⟩,
      ⟨none, .mv 13 (.t 5)⟩,
      ⟨none, .ixs 14 1 (.t 12) (.t 13)⟩,
      ⟨none, .ld1 15 (.t 14)⟩,
      ⟨none, .calv (some 16) (.t 11) [(.t 15)]⟩])
    (.cnd (.t 16)
     (.seq (.ops [⟨none, .mv 17 (.t 5)⟩,
       ⟨none, .asg 4 (.t 17)⟩])
     .ret)
     .skip))))
   (.ops [⟨none, .bin 18 .add .num (.t 8) (.c (.v (.int .i64 1)))⟩,
    ⟨none, .mv 8 (.t 18)⟩]))))))))
 (.seq (.ops [⟨none, .asg 4 (.c (.v (.int .i64 (-1))))⟩])
 .ret))),
  19, [4]⟩

/-- coinage/axis.check$1 -/
def c43 : MF := ⟨(.seq (.ops [⟨none, .asg 2 (.c (.v (.bool false)))⟩])
 (.seq (.ops [⟨none, .mv 3 (.t 0)⟩,
   ⟨none, .call (some 4) 31 [(.t 3)]⟩,
   ⟨none, .un 5 .not (.t 4)⟩,
   ⟨none, .asg 2 (.t 5)⟩])
 .ret)),
  6, [2]⟩


def tbl : FuncId → Option MF
  | 3 => some c3
  | 12 => some c12
  | 13 => some c13
  | 14 => some c14
  | 15 => some c15
  | 17 => some c17
  | 19 => some c19
  | 21 => some c21
  | 31 => some c31
  | 32 => some c32
  | 33 => some c33
  | 34 => some c34
  | 37 => some c37
  | 39 => some c39
  | 41 => some c41
  | 42 => some c42
  | 43 => some c43
  | _ => none

def hintsOf : Nat → List (List Nat)
  | _ => []

theorem comp3 : compF Go.Proofs.Try.prog (hintsOf 3) 3 = some c3 := by kernel_rfl
theorem comp12 : compF Go.Proofs.Try.prog (hintsOf 12) 12 = some c12 := by kernel_rfl
theorem comp13 : compF Go.Proofs.Try.prog (hintsOf 13) 13 = some c13 := by kernel_rfl
theorem comp14 : compF Go.Proofs.Try.prog (hintsOf 14) 14 = some c14 := by kernel_rfl
theorem comp15 : compF Go.Proofs.Try.prog (hintsOf 15) 15 = some c15 := by kernel_rfl
theorem comp17 : compF Go.Proofs.Try.prog (hintsOf 17) 17 = some c17 := by kernel_rfl
theorem comp19 : compF Go.Proofs.Try.prog (hintsOf 19) 19 = some c19 := by kernel_rfl
theorem comp21 : compF Go.Proofs.Try.prog (hintsOf 21) 21 = some c21 := by kernel_rfl
theorem comp31 : compF Go.Proofs.Try.prog (hintsOf 31) 31 = some c31 := by kernel_rfl
theorem comp32 : compF Go.Proofs.Try.prog (hintsOf 32) 32 = some c32 := by kernel_rfl
theorem comp33 : compF Go.Proofs.Try.prog (hintsOf 33) 33 = some c33 := by kernel_rfl
theorem comp34 : compF Go.Proofs.Try.prog (hintsOf 34) 34 = some c34 := by kernel_rfl
theorem comp37 : compF Go.Proofs.Try.prog (hintsOf 37) 37 = some c37 := by kernel_rfl
theorem comp39 : compF Go.Proofs.Try.prog (hintsOf 39) 39 = some c39 := by kernel_rfl
theorem comp41 : compF Go.Proofs.Try.prog (hintsOf 41) 41 = some c41 := by kernel_rfl
theorem comp42 : compF Go.Proofs.Try.prog (hintsOf 42) 42 = some c42 := by kernel_rfl
theorem comp43 : compF Go.Proofs.Try.prog (hintsOf 43) 43 = some c43 := by kernel_rfl

theorem tbl_ok (f : FuncId) (mf : MF) (h : tbl f = some mf) : ∃ hints, compF Go.Proofs.Try.prog hints f = some mf := by
  unfold tbl at h
  split at h
  · cases h; exact ⟨_, comp3⟩
  · cases h; exact ⟨_, comp12⟩
  · cases h; exact ⟨_, comp13⟩
  · cases h; exact ⟨_, comp14⟩
  · cases h; exact ⟨_, comp15⟩
  · cases h; exact ⟨_, comp17⟩
  · cases h; exact ⟨_, comp19⟩
  · cases h; exact ⟨_, comp21⟩
  · cases h; exact ⟨_, comp31⟩
  · cases h; exact ⟨_, comp32⟩
  · cases h; exact ⟨_, comp33⟩
  · cases h; exact ⟨_, comp34⟩
  · cases h; exact ⟨_, comp37⟩
  · cases h; exact ⟨_, comp39⟩
  · cases h; exact ⟨_, comp41⟩
  · cases h; exact ⟨_, comp42⟩
  · cases h; exact ⟨_, comp43⟩
  · cases h

end Go.Mx
