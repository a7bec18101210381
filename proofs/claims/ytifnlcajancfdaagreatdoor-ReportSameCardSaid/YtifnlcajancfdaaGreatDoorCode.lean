/- MADE BY PROGRAM (wip/gen/emit2.py): the functions of the given program as instructions of the logical machine. -/
import Derived.Test.YtifnlcajancfdaaGreatDoorVb
namespace Go.L.Try
open Go Go.L
@[reducible] def m (d s:Nat):Ins:=i d (.mov (.t s))
@[reducible] def z (d s:Nat):Ins:=i d (.ld none (.t s))
@[reducible] def y (d f s:Nat):Ins:=i d (.fld f (.t s))
@[reducible] def u (d s:Nat):Ins:=i d (.nil (.t s))
@[reducible] def q (d n s x:Nat):Ins:=i d (.ixs n (.t s) (.t x))
@[reducible] def wm (d g:Nat) (b:Bool) (s:Nat):Ins:=w d g b (.mov (.t s))
@[reducible] def bt (d:Nat) (o:BinOp) (x y:Nat):Ins:=i d (.bin o .other (.t x) (.t y))
@[reducible] def bc (d:Nat) (o:BinOp) (x:Nat) (n:Int):Ins:=i d (.bin o .other (.t x) (.c (.int .i64 n)))
@[reducible] def pk (d x a:Nat) (b:Bool):Ins:=i d (.pick (.t x) (.t a) (.c (.bool b)))
@[reducible] def vi (d:Nat) (n:Int):Ins:=i d (.mov (.c (.int .i64 n)))
@[reducible] def Fp:Nat:=8
@[reducible] def Ln:Nat:=12
@[reducible] def Cw:Nat:=16
@[reducible] def E4:Nat:=17
@[reducible] def I1:Nat:=18
@[reducible] def Jv:Nat:=20
@[reducible] def D9:Nat:=24
@[reducible] def Iy:Nat:=25
@[reducible] def Lm:Nat:=26
@[reducible] def Jf:Nat:=33
@[reducible] def Ch:Nat:=38
@[reducible] def Iz:Nat:=39
@[reducible] def Cy:Nat:=40
@[reducible] def Im:Nat:=43
@[reducible] def Ek:Nat:=44
@[reducible] def E3:Nat:=47
@[reducible] def Gt:Nat:=48
@[reducible] def Fo:Nat:=49
@[reducible] def Ld:Nat:=50
@[reducible] def Ph:Nat:=57
@[reducible] def Nb:Nat:=69
@[reducible] def Bw:Nat:=80
@[reducible] def Pg:Nat:=81
@[reducible] def Nc:Nat:=82
@[reducible] def Ll:Nat:=88
@[reducible] def B7:Nat:=91
@[reducible] def Kp:Nat:=93
@[reducible] def Jt:Nat:=96
@[reducible] def Jw:Nat:=99
@[reducible] def Ez:Nat:=101
@[reducible] def Bd:Nat:=102
@[reducible] def Js:Nat:=116
@[reducible] def F6:Nat:=117
@[reducible] def F7:Nat:=118
@[reducible] def F5:Nat:=124
@[reducible] def Lk:Nat:=125
@[reducible] def Gs:Nat:=126
@[reducible] def Bk:Nat:=131
@[reducible] def Ec:Nat:=132
@[reducible] def Dq:Nat:=133
@[reducible] def Gr:Nat:=136
@[reducible] def Gp:Nat:=137
@[reducible] def Gu:Nat:=138
@[reducible] def B8:Nat:=139
@[reducible] def C3:Nat:=140
@[reducible] def I5:Nat:=141
@[reducible] def Ag:Nat:=142
@[reducible] def Ix:Nat:=143
@[reducible] def Fw:Nat:=144
@[reducible] def Ej:Nat:=145
@[reducible] def Bu:Nat:=146
@[reducible] def Bf:Nat:=158
@[reducible] def Fv:Nat:=159
@[reducible] def Fu:Nat:=160
@[reducible] def Jr:Nat:=161
@[reducible] def Gw:Nat:=162
@[reducible] def Jg:Nat:=163
@[reducible] def Gx:Nat:=164
@[reducible] def Fx:Nat:=165
@[reducible] def Ju:Nat:=174
@[reducible] def Bs:Nat:=178
@[reducible] def Gq:Nat:=180
@[reducible] def Cg:Nat:=181
@[reducible] def C8:Nat:=182
@[reducible] def Dh:Nat:=183
@[reducible] def Bb:Nat:=184
@[reducible] def Ao:Nat:=185
@[reducible] def B6:Nat:=186
@[reducible] def Cc:Nat:=187
@[reducible] def Bq:Nat:=188
@[reducible] def H9:Nat:=189
@[reducible] def D8:Nat:=190
@[reducible] def Cs:Nat:=191
@[reducible] def An:Nat:=192
@[reducible] def Ai:Nat:=193
@[reducible] def Pj:Nat:=199
@[reducible] def Lo:Nat:=200
@[reducible] def Gv:Nat:=201
@[reducible] def Br:Nat:=212
@[reducible] def C9:Nat:=213
@[reducible] def B3:Nat:=214
@[reducible] def Bv:Nat:=215
@[reducible] def A8:Nat:=216
@[reducible] def Ar:Nat:=217
@[reducible] def Cb:Nat:=218
@[reducible] def Av:Nat:=219
@[reducible] def Ck:Nat:=220
@[reducible] def Az:Nat:=221
@[reducible] def Db:Nat:=222
@[reducible] def E5:Nat:=223
@[reducible] def Bg:Nat:=224
@[reducible] def Eb:Nat:=225
@[reducible] def Pi:Nat:=226
@[reducible] def Nd:Nat:=227
@[reducible] def Bh:Nat:=230
@[reducible] def C0:Nat:=231
@[reducible] def Cz:Nat:=232
@[reducible] def Ay:Nat:=233
@[reducible] def Ea:Nat:=234
@[reducible] def Dg:Nat:=235
def I9:FnC:=⟨55,[(.t 4)],(.seq (.reg [0,1] [(i 4 (.mov (.c (.bool false))))])
 (.seq (.reg [0,1,5] [(i 12 (.call (.f Cw) [])),(m 5 12)])
 (.seq (.reg [5,6] [(m 13 0),(m 14 1),(i 15 (.call (.f Ln) [(.t 13),(.c (.int .i64 6)),(.t 14)])),(m 6 15)])
 (.seq (.reg [5,6,7,8] [(m 17 6),(i 18 (.call (.f E4) [(.t 17)])),(m 16 18),(i 19 (.ext (.t 16) 0)),(i 20 (.ext (.t 16) 1)),(m 7 19),(m 8 20)])
 (.seq (.reg [5,6,7,8,9,10] [(m 22 6),(i 23 (.call (.f D9) [(.t 22)])),(m 21 23),(i 24 (.ext (.t 21) 0)),(i 25 (.ext (.t 21) 1)),(m 9 24),(m 10 25)])
 (.seq (.reg [5,6,7,8,10,11] [(m 26 7),(m 27 9),(i 28 (.call (.f Jv) [(.t 26),(.t 27)])),(m 11 28)])
 (.seq (.reg [4] [(m 29 5),(m 30 29),(wm 31 30 true 8),(w 32 30 true (.bin .eql .other (.t 31) (.c (.int .i64 0)))),(pk 33 30 32 false),(m 34 33),(wm 35 34 true 10),(w 36 34 true (.bin .eql .other (.t 35) (.c (.int .i64 0)))),(pk 37 34 36 false),(m 38 37),(wm 39 38 true 11),(pk 40 38 39 false),(m 41 40),(wm 42 41 true 7),(w 43 41 true (.lens false (.t 42))),(wm 44 41 true 6),(w 45 41 true (.lens false (.t 44))),(w 46 41 true (.bin .eql .other (.t 43) (.t 45))),(pk 47 41 46 false),(m 48 47),(wm 49 48 true 7),(w 50 48 true (.call (.f Iy) [(.t 49)])),(wm 51 48 true 6),(w 52 48 true (.call (.f Lm) [(.t 51)])),(w 53 48 true (.bin .eql .bool (.t 50) (.t 52))),(pk 54 48 53 false),(m 4 54)])
 .ret)))))))⟩
def Nw:C:=(.seq (.seq (.reg [0,1,2,7,8,30] [(m 22 8),(m 23 0),(i 24 (.lens false (.t 23))),(bt 25 .lss 22 24),(m 26 25),(wm 27 26 true 8),(wm 28 26 true 1),(w 29 26 true (.bin .lss .other (.t 27) (.t 28))),(pk 30 26 29 false)])
 (.cond (.t 30)
 .skip
 (.exit 0)))
 (.seq (.block 1 (.seq (.reg [0,1,2,7,8,9] [(m 33 0),(m 34 8),(q 35 5 33 34),(y 36 0 35),(z 37 36),(i 38 (.call (.f Ch) [(.t 37),(.c (.int .i64 4))])),(i 39 (.bin .add .other (.c (.int .i64 1)) (.t 38))),(m 9 39)])
 (.seq (.reg [0,1,2,7,8,9,10] [(m 40 9),(m 41 0),(m 42 8),(q 43 5 41 42),(y 44 1 43),(z 45 44),(i 46 (.call (.f Ch) [(.t 45),(.c (.int .i64 11))])),(bt 47 .add 40 46),(m 10 47)])
 (.seq (.reg [0,1,2,7,8,9,10,11] [(m 48 0),(m 49 8),(q 50 5 48 49),(y 51 2 50),(z 52 51),(m 53 10),(m 54 9),(bt 55 .sub 53 54),(bc 56 .add 55 1),(i 57 (.call (.f Ch) [(.t 52),(.t 56)])),(m 11 57)])
 (.seq (.reg [0,1,2,7,8,9,10,11,12] [(m 58 10),(m 59 0),(m 60 8),(q 61 5 59 60),(y 62 4 61),(z 63 62),(i 64 (.call (.f Ch) [(.t 63),(.c (.int .i64 7))])),(bt 65 .add 58 64),(m 12 65)])
 (.seq (.reg [0,1,2,7,8,9,10,11,12,13] [(m 66 0),(m 67 8),(q 68 5 66 67),(y 69 3 68),(z 70 69),(m 71 9),(i 72 (.call (.f Ch) [(.t 70),(.t 71)])),(i 73 (.bin .add .other (.c (.int .i64 1)) (.t 72))),(m 13 73)])
 (.reg [0,1,2,7,8] [(m 74 7),(m 75 8),(i 76 (.bin .add .other (.c (.int .i64 97)) (.t 75))),(i 77 (.cvi .u8 (.t 76))),(i 78 (.bsl 1 [(.int .u8 0)] 1 [(0,(1,(.t 77)))])),(i 79 (.b2s (.t 78))),(i 80 (.bin .add .other (.c (.string ⟨#[116]⟩)) (.t 79))),(m 81 9),(m 82 12),(m 83 10),(m 84 11),(m 85 13),(i 86 (.bld [(.string ⟨#[]⟩),(.int .i64 0),(.int .i64 0),(.int .i64 0),(.int .i64 0),(.int .i64 0),(.int .i64 0)] [(0,(1,(.t 80))),(1,(1,(.t 81))),(2,(1,(.t 82))),(3,(1,(.t 83))),(4,(1,(.t 84))),(5,(1,(.t 85)))])),(i 87 (.bsl 7 [(.string ⟨#[]⟩),(.int .i64 0),(.int .i64 0),(.int .i64 0),(.int .i64 0),(.int .i64 0),(.int .i64 0)] 1 [(0,(7,(.t 86)))])),(i 88 (.app 7 64 (.t 74) (.t 87))),(m 7 88)])))))))
 (.reg [0,1,2,7,8] [(m 31 8),(bc 32 .add 31 1),(m 8 32)])))
def Nv:C:=(.seq (.seq (.reg [2,7,14,15,93] [(m 91 15),(m 92 14),(bt 93 .lss 91 92)])
 (.cond (.t 93)
 .skip
 (.exit 2)))
 (.seq (.block 3 (.reg [2,7,14,15] [(m 96 7),(m 97 15),(m 98 15),(m 99 14),(m 100 2),(i 101 (.call (.f Iz) [(.t 99),(.t 100)])),(bt 102 .mul 98 101),(m 103 2),(m 104 14),(i 105 (.call (.f Ch) [(.t 103),(.t 104)])),(bt 106 .add 102 105),(m 107 14),(bt 108 .rem 106 107),(i 109 (.bin .add .other (.c (.int .i64 1)) (.t 108))),(q 110 7 96 97),(y 111 6 110),(k (.st 1 (.t 111) (.t 109)))]))
 (.reg [2,7,14,15] [(m 94 15),(bc 95 .add 94 1),(m 15 95)])))
def Ta:FnC:=⟨113,[(.t 6)],(.seq (.reg [0,1,2] [(i 6 (.mov (.c (.slice none 0 0))))])
 (.seq (.reg [0,1,2,7] [(i 7 (.mov (.c (.slice none 0 0))))])
 (.seq (.seq (.reg [0,1,2,7,18] [(m 16 0),(i 17 (.lens false (.t 16))),(bc 18 .eql 17 0)])
 (.cond (.t 18)
 (.reg [0,1,2,7] [(m 19 2),(i 20 (.bld [(.int .i64 0),(.int .i64 0),(.int .i64 0),(.int .i64 0),(.int .i64 0)] [(0,(1,(.t 19)))])),(i 21 (.bsl 5 [(.int .i64 0),(.int .i64 0),(.int .i64 0),(.int .i64 0),(.int .i64 0)] 1 [(0,(5,(.t 20)))])),(m 0 21)])
 .skip))
 (.seq (.seq (.reg [0,1,2,7,8] [(vi 8 0)])
 (.block 0 (.loop Nw)))
 (.seq (.reg [2,7,14] [(m 89 7),(i 90 (.lens false (.t 89))),(m 14 90)])
 (.seq (.seq (.reg [2,7,14,15] [(vi 15 0)])
 (.block 2 (.loop Nv)))
 (.seq (.reg [6] [(m 112 7),(m 6 112)])
 .ret)))))))⟩
def O8:FnC:=⟨6,[(.t 0)],(.seq (.reg [] [(i 0 (.mov (.c (.bool false))))])
 (.seq (.reg [0] [(i 1 (.bld [(.string ⟨#[]⟩),(.int .i64 0),(.bool false)] [(0,(1,(.c (.string ⟨#[97]⟩)))),(1,(1,(.c (.int .i64 7)))),(2,(1,(.c (.bool true))))])),(i 2 (.bld [(.string ⟨#[]⟩),(.int .i64 0),(.bool false)] [(0,(1,(.c (.string ⟨#[98]⟩))))])),(i 3 (.bsl 3 [(.string ⟨#[]⟩),(.int .i64 0),(.bool false)] 2 [(0,(3,(.t 1))),(3,(3,(.t 2)))])),(i 4 (.call (.f I1) [(.t 3)])),(i 5 (.bin .eql .other (.t 4) (.c (.string ⟨#[97,32,55,10,98,32,109,105,115,115,10]⟩)))),(m 0 5)])
 .ret))⟩
def K0:FnC:=⟨8,[(.t 2),(.t 3)],(.seq (.reg [0] [(i 2 (.mov (.c (.slice none 0 0)))),(vi 3 0)])
 (.seq (.reg [2,3] [(m 4 0),(i 5 (.call (.f E3) [(.t 4),(.f Gt)])),(i 6 (.ext (.t 5) 0)),(i 7 (.ext (.t 5) 1)),(m 2 6),(m 3 7)])
 .ret))⟩
def Vi:C:=(.seq (.reg [3,4,8,9,10,11] [(bt 11 .lss 10 9)])
 (.seq (.cond (.t 11)
 .skip
 (.exit 0))
 (.seq (.block 1 (.seq (.reg [3,4,6,8,9,10] [(q 12 3 8 10),(i 13 (.ld (some 3) (.t 12))),(i 6 (.all [(.string ⟨#[]⟩),(.int .i64 0),(.bool false)])),(k (.st 3 (.t 6) (.t 13)))])
 (.reg [3,4,8,9,10] [(m 14 4),(i 15 (.ld (some 3) (.t 6))),(i 16 (.call (.t 14) [(.t 15)]))])))
 (.reg [3,4,8,9,10] [(bc 17 .add 10 1),(m 10 17)]))))
def L9:FnC:=⟨19,[(.t 2)],(.seq (.reg [0] [(i 2 (.mov (.c (.string ⟨#[]⟩))))])
 (.seq (.reg [0,3] [(i 3 .alb)])
 (.seq (.reg [0,3,4] [(i 7 (.mkf (.func Fo) [] [(.t 3)])),(m 4 7)])
 (.seq (.seq (.reg [3,4,8,9,10] [(m 8 0),(i 9 (.lens false (.t 8))),(vi 10 0)])
 (.block 0 (.loop Vi)))
 (.seq (.reg [2] [(i 18 (.call (.f Ek) [(.t 3)])),(m 2 18)])
 .ret)))))⟩
def Re:C:=(.seq (.seq (.reg [0,1,5,14] [(m 11 5),(m 12 0),(i 13 (.lens false (.t 12))),(bt 14 .lss 11 13)])
 (.cond (.t 14)
 .skip
 (.exit 0)))
 (.seq (.block 1 (.seq (.drw [0,1,5,25] 0 [(m 17 0),(m 18 5),(q 19 3 17 18),(i 20 (.ld (some 3) (.t 19))),(m 21 1),(m 22 5),(q 23 3 21 22),(i 24 (.ld (some 3) (.t 23))),(i 25 (.bin .neq (.flat [(.one .s),(.one .i),(.one .b)]) (.t 20) (.t 24)))])
 (.cond (.t 25)
 (.seq (.reg [4] [(i 4 (.mov (.c (.bool false))))])
 .ret)
 .skip)))
 (.reg [0,1,5] [(m 15 5),(bc 16 .add 15 1),(m 5 16)])))
def Q2:FnC:=⟨26,[(.t 4)],(.seq (.reg [0,1] [(i 4 (.mov (.c (.bool false))))])
 (.seq (.seq (.reg [0,1,10] [(m 6 0),(i 7 (.lens false (.t 6))),(m 8 1),(i 9 (.lens false (.t 8))),(bt 10 .neq 7 9)])
 (.cond (.t 10)
 (.seq (.reg [4] [(i 4 (.mov (.c (.bool false))))])
 .ret)
 .skip))
 (.seq (.seq (.reg [0,1,5] [(vi 5 0)])
 (.block 0 (.loop Re)))
 (.seq (.reg [4] [(i 4 (.mov (.c (.bool true))))])
 .ret))))⟩
def J9:FnC:=⟨8,[(.t 2),(.t 3)],(.seq (.reg [0] [(i 2 (.mov (.c (.slice none 0 0)))),(vi 3 0)])
 (.seq (.reg [2,3] [(m 4 0),(i 5 (.call (.f E3) [(.t 4),(.f Jf)])),(i 6 (.ext (.t 5) 0)),(i 7 (.ext (.t 5) 1)),(m 2 6),(m 3 7)])
 .ret))⟩
def P2:C:=(.seq (.reg [5,6,7,8] [(bt 8 .lss 7 6)])
 (.seq (.cond (.t 8)
 .skip
 (.exit 0))
 (.seq (.block 1 (.seq (.reg [4,5,6,7] [(q 9 3 5 7),(i 10 (.ld (some 3) (.t 9))),(i 4 (.all [(.string ⟨#[]⟩),(.int .i64 0),(.bool false)])),(k (.st 3 (.t 4) (.t 10)))])
 (.seq (.reg [5,6,7,13] [(y 11 2 4),(z 12 11),(i 13 (.un .not (.t 12)))])
 (.cond (.t 13)
 (.seq (.reg [2] [(i 2 (.mov (.c (.bool false))))])
 .ret)
 .skip))))
 (.reg [5,6,7] [(bc 14 .add 7 1),(m 7 14)]))))
def O6:FnC:=⟨15,[(.t 2)],(.seq (.reg [0] [(i 2 (.mov (.c (.bool false))))])
 (.seq (.seq (.reg [5,6,7] [(m 5 0),(i 6 (.lens false (.t 5))),(vi 7 0)])
 (.block 0 (.loop P2)))
 (.seq (.reg [2] [(i 2 (.mov (.c (.bool true))))])
 .ret)))⟩
def S6:FnC:=⟨14,[(.t 2)],(.seq (.reg [0] [(i 2 (.mov (.c (.bool false))))])
 (.seq (.reg [5] [(m 7 0),(i 8 (.call (.f Ph) [(.t 7)])),(m 6 8),(i 9 (.ext (.t 6) 0)),(i 10 (.ext (.t 6) 1)),(i 11 (.ext (.t 6) 2)),(m 3 9),(m 4 10),(m 5 11)])
 (.seq (.reg [2] [(m 12 5),(bc 13 .eql 12 0),(m 2 13)])
 .ret)))⟩
def Sy:FnC:=⟨28,[(.t 4),(.t 5)],(.seq (.reg [0,1] [(vi 4 0),(vi 5 0)])
 (.seq (.reg [7,8,9] [(m 11 0),(m 12 1),(i 13 (.call (.f Nb) [(.t 11),(.t 12)])),(m 10 13),(i 14 (.ext (.t 10) 0)),(i 15 (.ext (.t 10) 1)),(i 16 (.ext (.t 10) 2)),(i 17 (.ext (.t 10) 3)),(m 6 14),(m 7 15),(m 8 16),(m 9 17)])
 (.seq (.block 0 (.seq (.reg [7,8,9,18] [(m 19 9),(bc 20 .neq 19 0),(m 18 20)])
 (.cond (.t 18)
 (.seq (.reg [4,5] [(m 21 9),(vi 4 0),(m 5 21)])
 .ret)
 (.seq (.reg [7,8,22] [(m 23 7),(bc 24 .lss 23 0),(m 22 24)])
 (.cond (.t 22)
 (.seq (.reg [4,5] [(vi 4 0),(vi 5 16)])
 .ret)
 .skip)))))
 (.seq (.reg [4,5] [(m 25 7),(m 26 8),(bt 27 .sub 25 26),(m 4 27),(vi 5 0)])
 .ret))))⟩
def Q3:FnC:=⟨12,[(.t 4)],(.seq (.reg [0,1] [(vi 4 0)])
 (.seq (.reg [4] [(m 5 0),(m 6 1),(bt 7 .rem 5 6),(m 8 1),(bt 9 .add 7 8),(m 10 1),(bt 11 .rem 9 10),(m 4 11)])
 .ret))⟩
def O7:FnC:=⟨16,[(.t 4)],(.seq (.reg [0,1] [(vi 4 0)])
 (.seq (.seq (.reg [0,13] [(m 5 0),(bc 6 .gtr 5 2),(m 7 6),(wm 8 7 true 1),(wm 9 7 true 0),(w 10 7 true (.bin .quo .other (.t 8) (.t 9))),(w 11 7 true (.call (.f Ch) [(.t 10),(.c (.int .i64 2))])),(w 12 7 true (.bin .eql .other (.t 11) (.c (.int .i64 1)))),(pk 13 7 12 false)])
 (.cond (.t 13)
 (.seq (.reg [4] [(m 14 0),(bc 15 .sub 14 1),(m 4 15)])
 .ret)
 .skip))
 (.seq (.reg [4] [(vi 4 1)])
 .ret)))⟩
def Ok:C:=(.seq (.reg [0,1,8,20,21,22,23] [(bt 23 .lss 22 21)])
 (.seq (.cond (.t 23)
 .skip
 (.exit 0))
 (.seq (.block 1 (.seq (.reg [0,1,8,9,10,20,21,22] [(m 24 22),(q 25 7 20 22),(i 26 (.ld (some 7) (.t 25))),(i 10 (.all [(.string ⟨#[]⟩),(.int .i64 0),(.int .i64 0),(.int .i64 0),(.int .i64 0),(.int .i64 0),(.int .i64 0)])),(m 9 24),(k (.st 7 (.t 10) (.t 26)))])
 (.seq (.reg [0,1,8,10,11,12,20,21,22] [(m 28 1),(m 29 0),(m 30 9),(i 31 (.call (.t 28) [(.t 29),(.t 30)])),(m 27 31),(i 32 (.ext (.t 27) 0)),(i 33 (.ext (.t 27) 1)),(m 11 32),(m 12 33)])
 (.seq (.seq (.reg [0,1,8,10,11,12,20,21,22,35] [(m 34 12),(bc 35 .eql 34 15)])
 (.cond (.t 35)
 (.seq (.reg [4,5] [(m 36 12),(i 4 (.mov (.c (.slice none 0 0)))),(m 5 36)])
 .ret)
 .skip))
 (.reg [0,1,8,20,21,22] [(m 37 8),(y 38 0 10),(z 39 38),(m 40 11),(m 41 12),(bc 42 .eql 41 0),(i 43 (.bld [(.string ⟨#[]⟩),(.int .i64 0),(.bool false)] [(0,(1,(.t 39))),(1,(1,(.t 40))),(2,(1,(.t 42)))])),(i 44 (.bsl 3 [(.string ⟨#[]⟩),(.int .i64 0),(.bool false)] 1 [(0,(3,(.t 43)))])),(i 45 (.app 3 32 (.t 37) (.t 44))),(m 8 45)])))))
 (.reg [0,1,8,20,21,22] [(bc 46 .add 22 1),(m 22 46)]))))
def Nu:FnC:=⟨48,[(.t 4),(.t 5)],(.seq (.reg [0,1] [(i 4 (.mov (.c (.slice none 0 0)))),(vi 5 0)])
 (.seq (.reg [0,1,7] [(m 14 0),(i 15 (.call (.f Bw) [(.t 14)])),(m 13 15),(i 16 (.ext (.t 13) 0)),(i 17 (.ext (.t 13) 1)),(m 6 16),(m 7 17)])
 (.seq (.seq (.reg [0,1,19] [(m 18 7),(bc 19 .neq 18 0)])
 (.cond (.t 19)
 (.seq (.reg [4,5] [(i 4 (.mov (.c (.slice none 0 0)))),(vi 5 1)])
 .ret)
 .skip))
 (.seq (.reg [0,1,8] [(i 8 (.mov (.c (.slice none 0 0))))])
 (.seq (.seq (.reg [0,1,8,20,21,22] [(m 20 0),(i 21 (.lens false (.t 20))),(vi 22 0)])
 (.block 0 (.loop Ok)))
 (.seq (.reg [4,5] [(m 47 8),(m 4 47),(vi 5 0)])
 .ret))))))⟩
def S8:C:=(.reg [6,7] [(m 7 16)])
def S7:C:=(.block 1 (.reg [] [(m 17 7),(k (.st 1 (.t 6) (.t 17)))]))
def S9:FnC:=⟨35,[(.t 4),(.t 5)],(.seq (.reg [0,1] [(vi 4 0),(vi 5 0)])
 (.seq (.seq (.reg [0,1,12] [(m 9 0),(m 10 1),(i 11 (.call (.f Pg) [(.t 9),(.t 10)])),(i 12 (.un .not (.t 11)))])
 (.cond (.t 12)
 (.seq (.reg [4,5] [(vi 4 0),(vi 5 1)])
 .ret)
 .skip))
 (.seq (.reg [0,1,6] [(i 6 (.all [(.int .u64 0)])),(k (.st 1 (.t 6) (.c (.int .u64 0))))])
 (.seq (.seq (.reg [0,1,6,15] [(m 13 0),(m 14 1),(i 15 (.call (.f Nc) [(.t 13),(.t 14)]))])
 (.block 0 (.rng (.t 15) [16] S8 S7)))
 (.seq (.reg [6,8] [(m 18 0),(m 19 1),(q 20 7 18 19),(i 21 (.ld (some 7) (.t 20))),(i 8 (.all [(.string ⟨#[]⟩),(.int .i64 0),(.int .i64 0),(.int .i64 0),(.int .i64 0),(.int .i64 0),(.int .i64 0)])),(k (.st 7 (.t 8) (.t 21)))])
 (.seq (.seq (.reg [6,8,29] [(z 22 6),(y 23 3 8),(z 24 23),(y 25 4 8),(z 26 25),(bt 27 .sub 24 26),(i 28 (.cvi .u64 (.t 27))),(bt 29 .gtr 22 28)])
 (.cond (.t 29)
 (.seq (.reg [4,5] [(vi 4 0),(vi 5 16)])
 .ret)
 .skip))
 (.seq (.reg [4,5] [(z 30 6),(i 31 (.cvi .i64 (.t 30))),(y 32 4 8),(z 33 32),(bt 34 .add 31 33),(m 4 34),(vi 5 0)])
 .ret)))))))⟩
def I7:FnC:=⟨6,[],(.seq (.reg [1,2] [(i 2 (.box (.t 0)))])
 (.reg [] [(i 3 (.ld (some 3) (.t 2))),(i 4 (.call (.f Ld) [(.t 3)])),(i 5 (.call (.f Cy) [(.t 1),(.t 4)]))]))⟩
def O5:FnC:=⟨15,[(.t 2)],(.seq (.reg [1] [(i 1 (.box (.t 0))),(i 2 (.mov (.c (.string ⟨#[]⟩))))])
 (.seq (.reg [1,3] [(i 3 (.mov (.c (.string ⟨#[109,105,115,115]⟩))))])
 (.seq (.seq (.reg [1,3,5] [(y 4 2 1),(z 5 4)])
 (.cond (.t 5)
 (.reg [1,3] [(y 6 1 1),(z 7 6),(i 8 (.call (.f Im) [(.t 7),(.c (.int .i64 10))])),(m 3 8)])
 .skip))
 (.seq (.reg [2] [(y 9 0 1),(z 10 9),(i 11 (.bin .add .other (.t 10) (.c (.string ⟨#[32]⟩)))),(m 12 3),(bt 13 .add 11 12),(i 14 (.bin .add .other (.t 13) (.c (.string ⟨#[10]⟩)))),(m 2 14)])
 .ret))))⟩
def Wy:C:=(.seq (.reg [0,7,8,20,21,22] [(bt 22 .lss 21 20)])
 (.seq (.cond (.t 22)
 .skip
 (.exit 0))
 (.seq (.block 1 (.seq (.reg [0,7,8,9,20,21] [(m 23 21),(m 9 23)])
 (.seq (.reg [0,7,8,9,10,11,20,21] [(m 25 0),(m 26 9),(i 27 (.call (.f Gt) [(.t 25),(.t 26)])),(m 24 27),(i 28 (.ext (.t 24) 0)),(i 29 (.ext (.t 24) 1)),(m 10 28),(m 11 29)])
 (.seq (.reg [0,7,8,9,11,20,21] [(m 30 7),(m 31 10),(i 32 (.bsl 1 [(.int .i64 0)] 1 [(0,(1,(.t 31)))])),(i 33 (.app 1 8 (.t 30) (.t 32))),(m 7 33)])
 (.seq (.reg [0,7,8,9,20,21,35] [(m 34 11),(bc 35 .neq 34 0)])
 (.cond (.t 35)
 (.reg [0,7,8,20,21] [(m 36 8),(m 37 9),(i 38 (.bsl 1 [(.int .i64 0)] 1 [(0,(1,(.t 37)))])),(i 39 (.app 1 8 (.t 36) (.t 38))),(m 8 39)])
 .skip))))))
 (.reg [0,7,8,20,21] [(bc 40 .add 21 1),(m 21 40)]))))
def Yd:FnC:=⟨47,[(.t 2),(.t 3),(.t 4)],(.seq (.reg [0] [(i 2 (.mov (.c (.slice none 0 0)))),(i 3 (.mov (.c (.slice none 0 0)))),(vi 4 0)])
 (.seq (.reg [0,6] [(m 13 0),(i 14 (.call (.f Bw) [(.t 13)])),(m 12 14),(i 15 (.ext (.t 12) 0)),(i 16 (.ext (.t 12) 1)),(m 5 15),(m 6 16)])
 (.seq (.seq (.reg [0,18] [(m 17 6),(bc 18 .neq 17 0)])
 (.cond (.t 18)
 (.seq (.reg [2,3,4] [(i 2 (.mov (.c (.slice none 0 0)))),(i 3 (.mov (.c (.slice none 0 0)))),(vi 4 1)])
 .ret)
 .skip))
 (.seq (.reg [0,7] [(i 7 (.mov (.c (.slice none 0 0))))])
 (.seq (.reg [0,7,8] [(i 8 (.mov (.c (.slice none 0 0))))])
 (.seq (.seq (.reg [0,7,8,20,21] [(m 19 0),(i 20 (.lens false (.t 19))),(vi 21 0)])
 (.block 0 (.loop Wy)))
 (.seq (.seq (.reg [7,8,43] [(m 41 8),(i 42 (.lens false (.t 41))),(bc 43 .gtr 42 0)])
 (.cond (.t 43)
 (.seq (.reg [2,3,4] [(m 44 7),(m 45 8),(m 2 44),(m 3 45),(vi 4 16)])
 .ret)
 .skip))
 (.seq (.reg [2,3,4] [(m 46 7),(m 2 46),(i 3 (.mov (.c (.slice none 0 0)))),(vi 4 0)])
 .ret))))))))⟩
def Vf:FnC:=⟨45,[(.t 4),(.t 5),(.t 6),(.t 7)],(.seq (.reg [0,1] [(i 4 (.mov (.c (.slice none 0 0)))),(vi 5 0),(vi 6 0),(vi 7 0)])
 (.seq (.reg [0,1,7,8,9] [(m 12 0),(m 13 1),(i 14 (.call (.f Ez) [(.t 12),(.t 13)])),(m 11 14),(i 15 (.ext (.t 11) 0)),(i 16 (.ext (.t 11) 1)),(i 17 (.ext (.t 11) 2)),(m 8 15),(m 9 16),(m 7 17)])
 (.seq (.seq (.reg [0,1,7,8,9,19] [(m 18 7),(bc 19 .neq 18 0)])
 (.cond (.t 19)
 (.seq (.reg [4,5,6,7] [(m 20 7),(i 4 (.mov (.c (.slice none 0 0)))),(vi 5 (-1)),(vi 6 0),(m 7 20)])
 .ret)
 .skip))
 (.seq (.reg [0,1,6,8,9] [(m 21 8),(m 22 9),(q 23 5 21 22),(y 24 1 23),(z 25 24),(m 6 25)])
 (.seq (.reg [4,6,9,10] [(m 27 0),(m 28 8),(m 29 6),(m 30 0),(m 31 1),(q 32 7 30 31),(y 33 3 32),(z 34 33),(bt 35 .add 29 34),(i 36 (.call (.f Jw) [(.t 27),(.t 28),(.t 35)])),(m 26 36),(i 37 (.ext (.t 26) 0)),(i 38 (.ext (.t 26) 1)),(m 4 37),(m 10 38)])
 (.seq (.drw [4,5,6,7] 0 [(m 39 4),(m 40 10),(m 41 9),(q 42 1 40 41),(z 43 42),(m 44 6),(m 4 39),(m 5 43),(m 6 44),(vi 7 0)])
 .ret))))))⟩
def No:C:=(.seq (.reg [0,4,5,19,20,21,22] [(bt 22 .lss 21 20)])
 (.seq (.cond (.t 22)
 .skip
 (.exit 0))
 (.seq (.block 1 (.seq (.reg [0,4,5,6,7,19,20,21] [(m 23 21),(q 24 7 19 21),(i 25 (.ld (some 7) (.t 24))),(i 7 (.all [(.string ⟨#[]⟩),(.int .i64 0),(.int .i64 0),(.int .i64 0),(.int .i64 0),(.int .i64 0),(.int .i64 0)])),(m 6 23),(k (.st 7 (.t 7) (.t 25)))])
 (.seq (.reg [0,4,5,6,7,8,19,20,21] [(i 26 (.ld (some 7) (.t 7))),(i 27 (.call (.f Js) [(.t 26)])),(m 8 27)])
 (.seq (.seq (.reg [0,4,5,6,7,8,19,20,21,29] [(m 28 8),(bc 29 .neq 28 0)])
 (.cond (.t 29)
 (.seq (.reg [2,3] [(m 30 6),(m 31 8),(m 2 30),(m 3 31)])
 .ret)
 .skip))
 (.seq (.reg [0,4,5,6,7,19,20,21] [(m 32 4),(y 33 0 7),(z 34 33),(i 35 (.look .str (.int .i64 0) (.t 32) (.t 34) false)),(bc 36 .add 35 1),(k (.mup .str (.t 32) (.t 34) (.t 36)))])
 (.seq (.reg [0,4,5,6,7,19,20,21] [(m 37 5),(y 38 6 7),(z 39 38),(i 40 (.look .int (.int .i64 0) (.t 37) (.t 39) false)),(bc 41 .add 40 1),(k (.mup .int (.t 37) (.t 39) (.t 41)))])
 (.seq (.reg [0,4,5,6,19,20,21,53] [(m 42 4),(y 43 0 7),(z 44 43),(i 45 (.look .str (.int .i64 0) (.t 42) (.t 44) false)),(bc 46 .gtr 45 1),(m 47 46),(wm 48 47 false 5),(w 49 47 false (.fld 6 (.t 7))),(w 50 47 false (.ld none (.t 49))),(w 51 47 false (.look .int (.int .i64 0) (.t 48) (.t 50) false)),(w 52 47 false (.bin .gtr .other (.t 51) (.c (.int .i64 1)))),(i 53 (.pick (.t 47) (.c (.bool true)) (.t 52)))])
 (.cond (.t 53)
 (.seq (.reg [2,3] [(m 54 6),(m 2 54),(vi 3 13)])
 .ret)
 .skip))))))))
 (.reg [0,4,5,19,20,21] [(bc 55 .add 21 1),(m 21 55)]))))
def L7:FnC:=⟨58,[(.t 2),(.t 3)],(.seq (.reg [0] [(vi 2 0),(vi 3 0)])
 (.seq (.seq (.reg [0,16] [(m 9 0),(i 10 (.lens false (.t 9))),(bc 11 .eql 10 0),(m 12 11),(wm 13 12 false 0),(w 14 12 false (.lens false (.t 13))),(w 15 12 false (.bin .gtr .other (.t 14) (.c (.int .i64 1024)))),(i 16 (.pick (.t 12) (.c (.bool true)) (.t 15)))])
 (.cond (.t 16)
 (.seq (.reg [2,3] [(vi 2 0),(vi 3 14)])
 .ret)
 .skip))
 (.seq (.reg [0,4,5] [(i 17 .mkm),(i 18 .mkm),(m 4 17),(m 5 18)])
 (.seq (.seq (.reg [0,4,5,19,20,21] [(m 19 0),(i 20 (.lens false (.t 19))),(vi 21 0)])
 (.block 0 (.loop No)))
 (.seq (.reg [2,3] [(m 56 0),(i 57 (.lens false (.t 56))),(m 2 57),(vi 3 0)])
 .ret)))))⟩
def Acm:FnC:=⟨24,[(.t 4)],(.seq (.reg [0,1] [(i 4 (.mov (.c (.bool false))))])
 (.seq (.reg [0,1,6] [(m 8 0),(i 9 (.call (.f Bw) [(.t 8)])),(m 7 9),(i 10 (.ext (.t 7) 0)),(i 11 (.ext (.t 7) 1)),(m 5 10),(m 6 11)])
 (.seq (.reg [4] [(m 12 6),(bc 13 .eql 12 0),(m 14 13),(wm 15 14 true 1),(w 16 14 true (.bin .geq .other (.t 15) (.c (.int .i64 0)))),(pk 17 14 16 false),(m 18 17),(wm 19 18 true 1),(wm 20 18 true 0),(w 21 18 true (.lens false (.t 20))),(w 22 18 true (.bin .lss .other (.t 19) (.t 21))),(pk 23 18 22 false),(m 4 23)])
 .ret)))⟩
def Vh:FnC:=⟨6,[(.t 4)],(.seq (.reg [2,3] [(i 2 (.box (.t 0))),(i 3 (.box (.t 1))),(i 4 (.mov (.c .nilFunc)))])
 (.seq (.reg [4] [(i 5 (.mkf (.func F6) [] [(.t 2),(.t 3)])),(m 4 5)])
 .ret))⟩
def S5:FnC:=⟨17,[(.t 2)],(.seq (.reg [0] [(i 2 (.mov (.c (.bool false))))])
 (.seq (.reg [2] [(m 3 0),(i 4 (.bin .neq .other (.t 3) (.c (.string ⟨#[]⟩)))),(m 5 4),(wm 6 5 true 0),(w 7 5 true (.ixt (.t 6) (.c (.int .i64 0)))),(w 8 5 true (.call (.f F5) [(.t 7)])),(pk 9 5 8 false),(m 10 9),(wm 11 10 true 0),(w 12 10 true (.call (.f Lk) [(.t 11),(.f Gs)])),(wm 13 10 true 0),(w 14 10 true (.lens true (.t 13))),(w 15 10 true (.bin .eql .other (.t 12) (.t 14))),(pk 16 10 15 false),(m 2 16)])
 .ret))⟩
def Ma:FnC:=⟨4,[(.t 2)],(.seq (.reg [1] [(i 1 (.box (.t 0))),(i 2 (.mov (.c .nilFunc)))])
 (.seq (.reg [2] [(i 3 (.mkf (.func Bk) [] [(.t 1)])),(m 2 3)])
 .ret))⟩
def Vk:FnC:=⟨9,[(.t 2)],(.seq (.reg [0] [(i 2 (.mov (.c (.bool false))))])
 (.seq (.reg [2] [(m 3 0),(bc 4 .geq 3 0),(m 5 4),(wm 6 5 true 0),(w 7 5 true (.bin .lss .other (.t 6) (.c (.int .i64 1024)))),(pk 8 5 7 false),(m 2 8)])
 .ret))⟩
def Q0:FnC:=⟨12,[(.t 2)],(.seq (.reg [0] [(i 2 (.mov (.c (.bool false))))])
 (.seq (.reg [4] [(m 6 0),(i 7 (.call (.f Bw) [(.t 6)])),(m 5 7),(i 8 (.ext (.t 5) 0)),(i 9 (.ext (.t 5) 1)),(m 3 8),(m 4 9)])
 (.seq (.reg [2] [(m 10 4),(bc 11 .eql 10 0),(m 2 11)])
 .ret)))⟩
def Mb:C:=(.seq (.reg [2,8,25,26,27] [(bt 27 .lss 26 25)])
 (.seq (.cond (.t 27)
 .skip
 (.exit 0))
 (.seq (.block 1 (.reg [2,8,25,26] [(m 28 8),(m 29 8),(u 30 29),(y 31 6 30),(z 32 31),(i 33 (.bsl 1 [(.int .i64 0)] 1 [(0,(1,(.c (.int .i64 (-1)))))])),(i 34 (.app 1 8 (.t 32) (.t 33))),(u 35 28),(y 36 6 35),(k (.st 1 (.t 36) (.t 34)))]))
 (.reg [2,8,25,26] [(bc 37 .add 26 1),(m 26 37)]))))
def Q4:FnC:=⟨49,[(.t 6),(.t 7)],(.seq (.reg [1,2,3] [(i 3 (.box (.t 0))),(i 6 (.mov (.c (.slice none 0 0)))),(i 7 (.mov (.c (.slice none 0 0))))])
 (.seq (.seq (.reg [1,2,3,12] [(z 9 3),(m 10 1),(i 11 (.call (.f Gr) [(.t 9),(.t 10)])),(i 12 (.un .not (.t 11)))])
 (.cond (.t 12)
 (.seq (.reg [6,7] [(i 6 (.mov (.c (.slice none 0 0)))),(i 7 (.mov (.c (.slice none 0 0))))])
 .ret)
 .skip))
 (.seq (.reg [1,2,3,8] [(m 13 1),(m 14 1),(i 15 (.call (.f Gp) [(.t 14)])),(i 16 .mkm),(i 17 (.bld [(.slice none 0 0),(.slice none 0 0),(.pointer none),(.map none),(.int .i64 0),(.slice none 0 0),(.slice none 0 0),(.pointer none)] [(0,(1,(.t 13))),(1,(1,(.t 15))),(3,(1,(.t 16)))])),(i 18 (.box (.t 17))),(m 8 18)])
 (.seq (.reg [1,2,8] [(m 19 8),(i 20 (.mkf (.func B8) [] [(.t 3)])),(i 21 (.call (.f Gu) [(.t 20),(.c (.slice none 0 0))])),(u 22 19),(y 23 2 22),(k (.st 1 (.t 23) (.t 21)))])
 (.seq (.seq (.reg [2,8,25,26] [(m 24 1),(i 25 (.lens false (.t 24))),(vi 26 0)])
 (.block 0 (.loop Mb)))
 (.seq (.reg [8] [(m 38 8),(m 39 2),(i 40 (.call (.f C3) [(.t 38),(.t 39)]))])
 (.seq (.drw [6,7] 0 [(m 41 8),(u 42 41),(y 43 5 42),(z 44 43),(m 45 8),(u 46 45),(y 47 6 46),(z 48 47),(m 6 44),(m 7 48)])
 .ret)))))))⟩
def Ip:C:=(.seq (.seq (.reg [8,13,14,15,16,17,113] [(m 108 16),(m 109 108),(wm 110 109 true 17),(w 111 109 true (.ld none (.t 13))),(w 112 109 true (.bin .lss .other (.t 110) (.t 111))),(pk 113 109 112 false)])
 (.cond (.t 113)
 .skip
 (.exit 2)))
 (.seq (.block 3 (.reg [8,13,14,15,16,17] [(z 118 8),(m 119 14),(m 120 17),(m 121 17),(y 122 1 15),(z 123 122),(i 124 (.call (.t 118) [(.t 119),(.t 120),(.t 121),(.t 123),(.c (.slice none 0 0))])),(m 16 124)]))
 (.reg [8,13,14,15,16,17] [(m 114 17),(y 115 2 15),(z 116 115),(bt 117 .add 114 116),(m 17 117)])))
def Bo:C:=(.reg [2,8,9,13,14] [(m 14 86)])
def Bn:C:=(.block 1 (.seq (.reg [8,9,13,14,15] [(z 87 2),(m 88 14),(q 89 7 87 88),(i 90 (.ld (some 7) (.t 89))),(i 15 (.all [(.string ⟨#[]⟩),(.int .i64 0),(.int .i64 0),(.int .i64 0),(.int .i64 0),(.int .i64 0),(.int .i64 0)])),(k (.st 7 (.t 15) (.t 90)))])
 (.seq (.reg [8,9,13,14,15,16] [(z 91 8),(m 92 14),(z 93 9),(y 94 4 15),(z 95 94),(bt 96 .sub 93 95),(z 97 9),(y 98 1 15),(z 99 98),(i 100 (.call (.t 91) [(.t 92),(.t 96),(.t 97),(.t 99),(.c (.slice none 0 0))])),(m 16 100)])
 (.seq (.seq (.reg [8,13,14,15,16,17] [(z 101 9),(y 102 4 15),(z 103 102),(bt 104 .sub 101 103),(y 105 2 15),(z 106 105),(bt 107 .add 104 106),(m 17 107)])
 (.block 2 (.loop Ip)))
 (.seq (.reg [126] [(m 125 16),(i 126 (.un .not (.t 125)))])
 (.cond (.t 126)
 (.exit 0)
 .skip))))))
def c_scene_Critical:FnC:=⟨132,[(.t 4),(.t 5),(.t 6)],(.seq (.reg [1,2] [(i 2 (.box (.t 0))),(i 4 (.mov (.c (.slice none 0 0)))),(vi 5 0),(vi 6 0)])
 (.seq (.seq (.reg [1,2,21] [(z 18 2),(m 19 1),(i 20 (.call (.f I5) [(.t 18),(.t 19)])),(i 21 (.un .not (.t 20)))])
 (.cond (.t 21)
 (.seq (.reg [4,5,6] [(i 4 (.mov (.c (.slice none 0 0)))),(vi 5 0),(vi 6 1)])
 .ret)
 .skip))
 (.seq (.reg [1,2,7] [(i 7 (.all [(.slice none 0 0)]))])
 (.seq (.reg [1,2,7,8] [(i 22 (.mkf (.func Ag) [] [(.t 7)])),(i 8 (.all [.nilFunc])),(k (.st 1 (.t 8) (.t 22)))])
 (.seq (.reg [1,2,7,8,9] [(z 23 2),(m 24 1),(i 25 (.call (.f Ix) [(.t 23),(.t 24)])),(i 9 (.all [(.int .i64 0)])),(k (.st 1 (.t 9) (.t 25)))])
 (.seq (.reg [1,2,7,8,9,10,11] [(z 27 2),(m 28 1),(i 29 (.call (.f Fw) [(.t 27),(.t 28)])),(m 26 29),(i 30 (.ext (.t 26) 0)),(i 31 (.ext (.t 26) 1)),(m 10 30),(m 11 31)])
 (.seq (.seq (.reg [1,2,7,8,9,10,32] [(m 32 11)])
 (.cond (.t 32)
 (.drw [1,2,7,8,9] 1 [⟨(some 33),none,(.ld none (.t 8)),true,0,false⟩,(m 34 10),⟨(some 35),none,(.ld none (.t 9)),true,0,false⟩,(bc 36 .sub 35 1),⟨(some 37),none,(.ld none (.t 9)),true,0,false⟩,(bc 38 .sub 37 1),⟨(some 39),none,(.ld none (.t 2)),true,0,false⟩,(m 40 10),(q 41 7 39 40),(y 42 5 41),⟨(some 43),none,(.ld none (.t 42)),true,0,false⟩,(z 44 2),(m 45 10),(q 46 7 44 45),(y 47 5 46),(z 48 47),(i 49 (.bsl 1 [(.int .i64 0)] 1 [(0,(1,(.t 48)))])),⟨(some 50),none,(.call (.t 33) [(.t 34),(.t 36),(.t 38),(.t 43),(.t 49)]),false,1,false⟩])
 .skip))
 (.seq (.reg [1,2,7,8,9,12] [(z 51 7),(i 52 (.lens false (.t 51))),(m 12 52)])
 (.seq (.drw [1,2,7,8,9,12] 0 [(z 53 8),(m 54 1),(z 55 9),(z 56 2),(m 57 1),(q 58 7 56 57),(y 59 4 58),(z 60 59),(bt 61 .sub 55 60),(z 62 9),(z 63 2),(m 64 1),(q 65 7 63 64),(y 66 1 65),(z 67 66),(i 68 (.call (.t 53) [(.t 54),(.t 61),(.t 62),(.t 67),(.c (.slice none 0 0))]))])
 (.seq (.drw [1,2,7,8,9,12,13] 1 [⟨(some 69),none,(.ld none (.t 9)),true,0,false⟩,⟨(some 70),none,(.ld none (.t 2)),true,0,false⟩,(m 71 1),(q 72 7 70 71),(y 73 3 72),⟨(some 74),none,(.ld none (.t 73)),true,0,false⟩,(bt 75 .add 69 74),⟨(some 76),none,(.ld none (.t 2)),true,0,false⟩,(m 77 1),(q 78 7 76 77),(y 79 4 78),⟨(some 80),none,(.ld none (.t 79)),true,0,false⟩,(bt 81 .sub 75 80),(i 13 (.all [(.int .i64 0)])),⟨none,none,(.st 1 (.t 13) (.t 81)),false,1,false⟩])
 (.seq .skip
 (.seq (.seq (.reg [2,7,8,9,12,13,85] [(z 82 2),(m 83 1),(i 84 (.call (.f Ej) [(.t 82),(.t 83)])),(i 85 (.call (.f B7) [(.t 84)]))])
 (.block 0 (.rng (.t 85) [86] Bo Bn)))
 (.seq (.seq (.reg [7,12,129] [(z 127 7),(i 128 (.lens false (.t 127))),(bc 129 .gtr 128 4096)])
 (.cond (.t 129)
 (.seq (.reg [4,5,6] [(i 4 (.mov (.c (.slice none 0 0)))),(vi 5 0),(vi 6 15)])
 .ret)
 .skip))
 (.seq (.reg [4,5,6] [(z 130 7),(m 131 12),(m 4 130),(m 5 131),(vi 6 0)])
 .ret))))))))))))))⟩
def Cm:FnC:=⟨9,[],(.reg [] [(m 4 0),(m 5 0),(i 6 (.lens false (.t 5))),(m 7 1),(i 8 (.call (.f Bu) [(.t 4),(.t 6),(.t 7)]))])⟩
def Qz:FnC:=⟨14,[(.t 2)],(.seq (.reg [1] [(i 1 (.box (.t 0))),(vi 2 0)])
 (.seq (.reg [1,3] [(i 3 (.all [.nilFunc])),(k (.st 1 (.t 3) (.f Bf)))])
 (.seq (.reg [1,4] [(i 6 (.mkf (.func Fv) [] [(.t 1),(.t 3)])),(m 4 6)])
 (.seq (.reg [4,5] [(i 7 (.mkf (.func Fu) [] [(.t 1)])),(m 5 7)])
 (.seq (.reg [2] [(m 8 4),(i 9 (.bld [.nilFunc,(.int .i64 0)] [(0,(1,(.t 8))),(1,(1,(.c (.int .i64 11))))])),(m 10 5),(i 11 (.bld [.nilFunc,(.int .i64 0)] [(0,(1,(.t 10))),(1,(1,(.c (.int .i64 12))))])),(i 12 (.bld [.nilFunc,(.int .i64 0),.nilFunc,(.int .i64 0)] [(0,(2,(.t 9))),(2,(2,(.t 11)))])),(i 13 (.call (.f Jr) [(.t 12)])),(m 2 13)])
 .ret)))))⟩
def P0:C:=(.seq (.seq (.reg [0,1,2,4,5,33] [(m 26 0),(m 27 5),(i 28 (.call (.t 26) [(.t 27)])),(m 29 28),(wm 30 29 true 5),(wm 31 29 true 4),(w 32 29 true (.bin .leq .other (.t 30) (.t 31))),(pk 33 29 32 false)])
 (.cond (.t 33)
 .skip
 (.exit 0)))
 (.block 1 (.seq (.reg [0,1,2,4,5,6] [(z 34 1),(z 35 2),(m 36 5),(i 37 (.call (.f F7) [(.t 34),(.t 35),(.t 36)])),(m 6 37)])
 (.seq (.seq (.reg [0,1,2,4,6,40] [(m 38 6),(m 39 5),(bt 40 .eql 38 39)])
 (.cond (.t 40)
 (.exit 0)
 .skip))
 (.reg [0,1,2,4,5] [(m 41 6),(m 5 41)])))))
def O4:FnC:=⟨42,[],(.seq (.seq (.reg [0,1,2,10] [(z 7 1),(z 8 2),(i 9 (.call (.f Pg) [(.t 7),(.t 8)])),(i 10 (.un .not (.t 9)))])
 (.cond (.t 10)
 .ret
 .skip))
 (.seq (.drw [0,1,2,4] 0 [(z 11 1),(z 12 2),(q 13 7 11 12),(y 14 3 13),(z 15 14),(z 16 1),(z 17 2),(q 18 7 16 17),(y 19 4 18),(z 20 19),(bt 21 .sub 15 20),(i 22 (.cvi .u64 (.t 21))),(m 4 22)])
 (.seq (.reg [0,1,2,4,5] [(z 23 1),(z 24 2),(i 25 (.call (.f F7) [(.t 23),(.t 24),(.c (.int .u64 0))])),(m 5 25)])
 (.seq .skip
 (.block 0 (.loop P0))))))⟩
def O9:FnC:=⟨27,[(.t 6)],(.seq (.reg [0,1,2] [(i 6 (.mov (.c (.int .u64 0))))])
 (.seq (.seq (.reg [0,1,2,10] [(m 7 0),(m 8 1),(i 9 (.call (.f Gw) [(.t 7),(.t 8)])),(i 10 (.un .not (.t 9)))])
 (.cond (.t 10)
 (.seq (.reg [6] [(i 6 (.mov (.c (.int .u64 0))))])
 .ret)
 .skip))
 (.seq (.drw [6] 1 [(m 11 0),(m 12 1),(q 13 7 11 12),(y 14 1 13),⟨(some 15),none,(.ld none (.t 14)),true,0,false⟩,(i 16 (.cvi .u64 (.t 15))),(m 17 0),(m 18 1),⟨(some 19),none,(.call (.f Gx) [(.t 17),(.t 18)]),true,0,false⟩,(i 20 (.cvi .u64 (.t 19))),(m 21 0),(m 22 1),(m 23 2),⟨(some 24),none,(.call (.f Fx) [(.t 21),(.t 22),(.t 23)]),true,0,false⟩,(i 25 (.bsl 1 [(.int .u64 0)] 2 [(0,(1,(.t 20))),(1,(1,(.t 24)))])),⟨(some 26),none,(.call (.f Jg) [(.t 16),(.t 25)]),false,1,false⟩,⟨(some 6),none,(.mov (.t 26)),false,1,false⟩])
 .ret)))⟩
def O3:FnC:=⟨15,[(.t 2)],(.seq (.reg [0] [(i 2 (.mov (.c (.bool false))))])
 (.seq (.reg [2] [(m 3 0),(i 4 (.bin .or .other (.t 3) (.c (.int .u8 32)))),(i 5 (.bin .geq .other (.t 4) (.c (.int .u8 97)))),(m 6 5),(wm 7 6 true 0),(w 8 6 true (.bin .or .other (.t 7) (.c (.int .u8 32)))),(w 9 6 true (.bin .leq .other (.t 8) (.c (.int .u8 122)))),(pk 10 6 9 false),(m 11 10),(wm 12 11 false 0),(w 13 11 false (.bin .eql .other (.t 12) (.c (.int .u8 95)))),(i 14 (.pick (.t 11) (.c (.bool true)) (.t 13))),(m 2 14)])
 .ret))⟩
def Sz:C:=(.seq (.seq (.reg [0,1,5,9] [(m 6 5),(m 7 0),(i 8 (.lens true (.t 7))),(bt 9 .lss 6 8)])
 (.cond (.t 9)
 .skip
 (.exit 0)))
 (.block 1 (.seq (.seq (.reg [0,1,5,15] [(m 10 1),(m 11 0),(m 12 5),(i 13 (.ixt (.t 11) (.t 12))),(i 14 (.call (.t 10) [(.t 13)])),(i 15 (.un .not (.t 14)))])
 (.cond (.t 15)
 (.exit 0)
 .skip))
 (.reg [0,1,5] [(m 16 5),(bc 17 .add 16 1),(m 5 17)]))))
def S0:FnC:=⟨19,[(.t 4)],(.seq (.reg [0,1] [(vi 4 0)])
 (.seq (.reg [0,1,5] [(vi 5 0)])
 (.seq .skip
 (.seq (.block 0 (.loop Sz))
 (.seq (.reg [4] [(m 18 5),(m 4 18)])
 .ret)))))⟩
def S4:FnC:=⟨14,[(.t 2)],(.seq (.reg [0] [(i 2 (.mov (.c (.bool false))))])
 (.seq (.seq (.reg [0,3] [(m 3 0)])
 (.block 0 (.seq (.block 2 (.block 1 (.seq (.seq (.seq (.reg [0,3,4] [(i 5 (.bin .eql .other (.t 3) (.c (.int .u8 46)))),(m 4 5)])
 (.cond (.t 4)
 (.exit 1)
 .skip))
 (.seq (.reg [0,6] [(i 7 (.bin .eql .other (.t 3) (.c (.int .u8 45)))),(m 6 7)])
 (.cond (.t 6)
 (.exit 2)
 .skip)))
 (.exit 0))))
 (.seq (.seq (.reg [2] [(i 2 (.mov (.c (.bool true))))])
 .ret)
 (.exit 0)))))
 (.seq (.reg [2] [(m 8 0),(i 9 (.call (.f F5) [(.t 8)])),(m 10 9),(wm 11 10 false 0),(w 12 10 false (.call (.f Ju) [(.t 11)])),(i 13 (.pick (.t 10) (.c (.bool true)) (.t 12))),(m 2 13)])
 .ret)))⟩
def Cp:C:=(.seq (.seq (.reg [0,1,3,10] [(m 10 4)])
 (.cond (.t 10)
 .skip
 (.exit 0)))
 (.seq (.block 1 (.seq (.reg [0,1,3,20] [(m 17 0),(m 18 3),(i 19 (.call (.t 17) [(.t 18)])),(i 20 (.un .not (.t 19)))])
 (.cond (.t 20)
 .ret
 .skip)))
 (.reg [0,1,3,4] [(i 12 (.ld (some 16) (.t 1))),(m 13 3),(i 14 (.call (.f Dq) [(.t 12),(.t 13)])),(m 11 14),(i 15 (.ext (.t 11) 0)),(i 16 (.ext (.t 11) 1)),(m 3 15),(m 4 16)])))
def I8:FnC:=⟨21,[],(.seq (.reg [0,1,3,4] [(i 6 (.ld (some 16) (.t 1))),(i 7 (.call (.f Ec) [(.t 6)])),(m 5 7),(i 8 (.ext (.t 5) 0)),(i 9 (.ext (.t 5) 1)),(m 3 8),(m 4 9)])
 (.block 0 (.loop Cp)))⟩
def Kb:FnC:=⟨8,[(.t 2),(.t 3)],(.seq (.reg [1] [(i 1 (.box (.t 0))),(vi 2 0),(i 3 (.mov (.c (.bool false))))])
 (.seq (.reg [2,3] [(i 4 (.ld (some 16) (.t 1))),(i 5 (.call (.f Dq) [(.t 4),(.c (.int .i64 (-1)))])),(i 6 (.ext (.t 5) 0)),(i 7 (.ext (.t 5) 1)),(m 2 6),(m 3 7)])
 .ret))⟩
def Mf:C:=(.seq (.block 1 (.seq (.seq (.reg [2,7,8,31] [(m 30 7),(i 31 (.bin .neq .other (.t 30) (.c (.int .u64 0))))])
 (.cond (.t 31)
 (.seq (.reg [4,5] [(m 32 8),(i 33 (.bin .shl .other (.t 32) (.c (.int .u64 6)))),(m 34 7),(i 35 (.call (.f Bs) [(.t 34)])),(bt 36 .add 33 35),(m 4 36),(i 5 (.mov (.c (.bool true))))])
 .ret)
 .skip))
 (.seq (.reg [2,8] [(m 37 8),(bc 38 .add 37 1),(m 8 38)])
 (.seq (.reg [2,8,40] [(m 39 8),(bc 40 .eql 39 16)])
 (.cond (.t 40)
 (.seq (.reg [4,5] [(vi 4 0),(i 5 (.mov (.c (.bool false))))])
 .ret)
 .skip)))))
 (.reg [2,7,8] [(m 27 8),(i 28 (.ixa 16 1 (.t 2) (.t 27))),(z 29 28),(m 7 29)]))
def Lb:FnC:=⟨41,[(.t 4),(.t 5)],(.seq (.reg [1,2] [(i 2 (.box (.t 0))),(vi 4 0),(i 5 (.mov (.c (.bool false))))])
 (.seq (.reg [2,6] [(m 9 1),(i 10 (.max (.t 9) [(.c (.int .i64 (-1)))])),(bc 11 .add 10 1),(m 6 11)])
 (.seq (.seq (.reg [2,6,14] [(m 12 6),(i 13 (.call (.f Kp) [(.t 12)])),(i 14 (.un .not (.t 13)))])
 (.cond (.t 14)
 (.seq (.reg [4,5] [(vi 4 0),(i 5 (.mov (.c (.bool false))))])
 .ret)
 .skip))
 (.seq (.reg [2,6,7] [(m 15 6),(i 16 (.bin .shr .other (.t 15) (.c (.int .u64 6)))),(i 17 (.ixa 16 1 (.t 2) (.t 16))),(z 18 17),(m 19 6),(bc 20 .and 19 63),(bt 21 .shr 18 20),(m 22 6),(bc 23 .and 22 63),(bt 24 .shl 21 23),(m 7 24)])
 (.seq (.reg [2,7,8] [(m 25 6),(i 26 (.bin .shr .other (.t 25) (.c (.int .u64 6)))),(m 8 26)])
 (.block 0 (.loop Mf)))))))⟩
def Nr:FnC:=⟨8,[(.t 4)],(.seq (.reg [0,1] [(i 4 (.mov (.c (.bool false))))])
 (.seq (.reg [4] [(m 5 0),(m 6 1),(i 7 (.call (.f Gq) [(.t 5),(.t 6),(.f Cg)])),(m 4 7)])
 .ret))⟩
def Oi:C:=(.seq (.reg [1,3,9,10,11] [(bt 11 .lss 10 9)])
 (.seq (.cond (.t 11)
 .skip
 (.exit 0))
 (.seq (.block 1 (.seq (.reg [1,3,4,9,10] [(m 12 10),(m 4 12)])
 (.reg [1,3,9,10] [(m 13 3),(m 14 4),(m 15 4),(q 16 1 13 14),(k (.st 1 (.t 16) (.t 15)))])))
 (.reg [1,3,9,10] [(bc 17 .add 10 1),(m 10 17)]))))
def Np:FnC:=⟨22,[(.t 2)],(.seq (.reg [1] [(i 1 (.box (.t 0))),(i 2 (.mov (.c (.slice none 0 0))))])
 (.seq (.reg [1,3] [(z 5 1),(i 6 (.lens false (.t 5))),(i 7 (.msl [(.int .i64 0)] 8 (.t 6) (.t 6))),(m 3 7)])
 (.seq (.seq (.reg [1,3,9,10] [(m 8 3),(i 9 (.lens false (.t 8))),(vi 10 0)])
 (.block 0 (.loop Oi)))
 (.seq (.reg [3] [(m 18 3),(i 19 (.mkf (.func C8) [] [(.t 1)])),(i 20 (.call (.f Bd) [(.t 18),(.t 19)]))])
 (.seq (.reg [2] [(m 21 3),(m 2 21)])
 .ret)))))⟩
def Ol:C:=(.seq (.reg [5,11,12,13,14] [(bt 14 .lss 13 12)])
 (.seq (.cond (.t 14)
 .skip
 (.exit 0))
 (.seq (.block 1 (.seq (.reg [5,7,11,12,13] [(q 15 1 11 13),(z 16 15),(m 7 16)])
 (.reg [5,11,12,13] [(m 17 5),(m 18 7),(i 19 (.call (.f Bb) [(.t 17),(.t 18)]))])))
 (.reg [5,11,12,13] [(bc 20 .add 13 1),(m 13 20)]))))
def Nx:FnC:=⟨22,[(.t 4)],(.seq (.reg [0,1] [(i 4 (.mov (.c (.pointer none))))])
 (.seq (.reg [1,5] [(m 8 0),(i 9 (.bld [.nilFunc,(.slice none 0 0),(.int .u64 0)] [(0,(1,(.t 8)))])),(i 10 (.box (.t 9))),(m 5 10)])
 (.seq (.seq (.reg [5,11,12,13] [(m 11 1),(i 12 (.lens false (.t 11))),(vi 13 0)])
 (.block 0 (.loop Ol)))
 (.seq (.reg [4] [(m 21 5),(m 4 21)])
 .ret))))⟩
def Mc:FnC:=⟨17,[(.t 5)],(.seq (.reg [0,1,2] [(i 5 (.mov (.c (.bool false))))])
 (.seq (.drw [5] 0 [(z 6 2),(m 7 0),(q 8 7 6 7),(y 9 6 8),(z 10 9),(z 11 2),(m 12 1),(q 13 7 11 12),(y 14 6 13),(z 15 14),(bt 16 .lss 10 15),(m 5 16)])
 .ret))⟩
def Jl:C:=(.seq (.seq (.reg [0,1,4,14] [(m 9 0),(u 10 9),(y 11 4 10),(z 12 11),(m 13 1),(bt 14 .lss 12 13)])
 (.cond (.t 14)
 .skip
 (.exit 0)))
 (.block 1 (.seq (.reg [0,1,4] [(m 15 0),(i 16 (.call (.f B6) [(.t 15)]))])
 (.seq (.reg [0,1,4,5] [(m 17 0),(u 18 17),(y 19 7 18),(z 20 19),(i 21 (.bin .neq .ptr (.t 20) (.c (.pointer none)))),(m 22 21),(wm 23 22 true 0),(w 24 22 true (.nil (.t 23))),(w 25 22 true (.fld 7 (.t 24))),(w 26 22 true (.ld none (.t 25))),(w 27 22 true (.nil (.t 26))),(w 28 22 true (.fld 3 (.t 27))),(w 29 22 true (.ld none (.t 28))),(w 30 22 true (.bin .gtr .other (.t 29) (.c (.int .i64 0)))),(pk 31 22 30 false),(m 5 31)])
 (.seq (.seq (.reg [0,1,4,38] [(m 32 5),(i 33 (.un .not (.t 32))),(m 34 33),(wm 35 34 true 0),(w 36 34 true (.call (.f Cc) [(.t 35)])),(w 37 34 true (.un .not (.t 36))),(pk 38 34 37 false)])
 (.cond (.t 38)
 (.seq (.seq (.reg [0,1,4,42] [(m 39 0),(i 40 (.call (.f Bq) [(.t 39)])),(m 41 1),(bt 42 .geq 40 41)])
 (.cond (.t 42)
 (.exit 0)
 .skip))
 (.seq (.reg [0,1,4] [(m 43 0),(m 44 0),(i 45 (.call (.f Bq) [(.t 44)])),(u 46 43),(y 47 4 46),(k (.st 1 (.t 47) (.t 45)))])
 (.exit 1)))
 .skip))
 (.seq (.reg [0,1,4,6] [(m 48 0),(u 49 48),(y 50 7 49),(z 51 50),(u 52 51),(y 53 3 52),(z 54 53),(m 6 54)])
 (.seq (.seq (.reg [0,1,4,6,56] [(m 55 6),(bc 56 .eql 55 0)])
 (.cond (.t 56)
 (.drw [0,1,4,6] 0 [(m 57 0),(u 58 57),(y 59 7 58),(z 60 59),(u 61 60),(y 62 2 61),(z 63 62),(m 64 0),⟨(some 65),none,(.call (.f Bq) [(.t 64)]),true,0,false⟩,(m 66 0),(u 67 66),(y 68 4 67),(z 69 68),(bt 70 .sub 65 69),(i 71 (.min (.t 63) [(.t 70)])),(m 6 71)])
 .skip))
 (.reg [0,1,4] [(m 72 4),(m 73 6),(m 74 1),(m 75 0),(u 76 75),(y 77 4 76),(z 78 77),(bt 79 .sub 74 78),(i 80 (.min (.t 73) [(.t 79)])),(i 81 (.call (.t 72) [(.t 80)]))]))))))))
def G9:FnC:=⟨82,[],(.seq (.reg [0,1,4] [(m 7 0),(i 8 (.mkf (.func Ao) [(.t 7)] [])),(m 4 8)])
 (.seq .skip
 (.block 0 (.loop Jl))))⟩
def Vg:FnC:=⟨24,[(.t 4)],(.seq (.reg [0,1] [(i 4 (.mov (.c (.bool false))))])
 (.seq (.reg [0,1,6] [(m 8 0),(i 9 (.call (.f Bw) [(.t 8)])),(m 7 9),(i 10 (.ext (.t 7) 0)),(i 11 (.ext (.t 7) 1)),(m 5 10),(m 6 11)])
 (.seq (.reg [4] [(m 12 6),(bc 13 .eql 12 0),(m 14 13),(wm 15 14 true 1),(w 16 14 true (.bin .geq .other (.t 15) (.c (.int .i64 0)))),(pk 17 14 16 false),(m 18 17),(wm 19 18 true 1),(wm 20 18 true 0),(w 21 18 true (.lens false (.t 20))),(w 22 18 true (.bin .lss .other (.t 19) (.t 21))),(pk 23 18 22 false),(m 4 23)])
 .ret)))⟩
def Iq:FnC:=⟨24,[(.t 11)],(.seq (.reg [0,1,2,3,4,5] [(i 11 (.mov (.c (.bool false))))])
 (.seq (.reg [5] [(z 12 5),(m 13 0),(m 14 1),(m 15 2),(m 16 3),(m 17 4),(i 18 (.bld [(.int .i64 0),(.int .i64 0),(.int .i64 0),(.int .i64 0),(.slice none 0 0)] [(0,(1,(.t 13))),(1,(1,(.t 14))),(2,(1,(.t 15))),(3,(1,(.t 16))),(4,(1,(.t 17)))])),(i 19 (.bsl 5 [(.int .i64 0),(.int .i64 0),(.int .i64 0),(.int .i64 0),(.slice none 0 0)] 1 [(0,(5,(.t 18)))])),(i 20 (.app 5 56 (.t 12) (.t 19))),(k (.st 1 (.t 5) (.t 20)))])
 (.seq (.reg [11] [(z 21 5),(i 22 (.lens false (.t 21))),(bc 23 .leq 22 4096),(m 11 23)])
 .ret)))⟩
def Pz:C:=(.reg [2,5,6] [(m 6 20)])
def Py:C:=(.block 1 (.drw [] 0 [(z 21 5),(z 22 2),(m 23 6),(q 24 7 22 23),(y 25 4 24),(z 26 25),(i 27 (.max (.t 21) [(.t 26)])),(k (.st 1 (.t 5) (.t 27)))]))
def O2:FnC:=⟨30,[(.t 4)],(.seq (.reg [1,2] [(i 2 (.box (.t 0))),(vi 4 0)])
 (.seq (.seq (.reg [1,2,10] [(z 7 2),(m 8 1),(i 9 (.call (.f I5) [(.t 7),(.t 8)])),(i 10 (.un .not (.t 9)))])
 (.cond (.t 10)
 (.seq (.reg [4] [(vi 4 0)])
 .ret)
 .skip))
 (.seq (.reg [1,2,5] [(z 11 2),(m 12 1),(q 13 7 11 12),(y 14 4 13),(z 15 14),(i 5 (.all [(.int .i64 0)])),(k (.st 1 (.t 5) (.t 15)))])
 (.seq (.seq (.reg [2,5,19] [(z 16 2),(m 17 1),(i 18 (.call (.f Ej) [(.t 16),(.t 17)])),(i 19 (.call (.f B7) [(.t 18)]))])
 (.block 0 (.rng (.t 19) [20] Pz Py)))
 (.seq (.reg [4] [(z 28 5),(i 29 (.bin .add .other (.c (.int .i64 1)) (.t 28))),(m 4 29)])
 .ret)))))⟩
def Nt:C:=(.reg [2,6,7,8] [(m 8 19)])
def Ns:C:=(.block 1 (.seq (.drw [6,7,8,42] 0 [(z 20 2),(m 21 8),(q 22 7 20 21),(y 23 5 22),(z 24 23),(bc 25 .gtr 24 1),(m 26 25),(w 27 26 true (.ld none (.t 7))),(w 28 26 true (.un .not (.t 27))),(wm 29 26 true 28),(w 30 29 false (.ld none (.t 2))),(wm 31 29 false 8),(w 32 29 false (.ixs 7 (.t 30) (.t 31))),(w 33 29 false (.fld 5 (.t 32))),(w 34 29 false (.ld none (.t 33))),(w 35 29 false (.ld none (.t 2))),(w 36 29 false (.ld none (.t 6))),(w 37 29 false (.ixs 7 (.t 35) (.t 36))),(w 38 29 false (.fld 5 (.t 37))),(w 39 29 false (.ld none (.t 38))),(w 40 29 false (.bin .gtr .other (.t 34) (.t 39))),(w 41 26 true (.pick (.t 29) (.c (.bool true)) (.t 40))),(pk 42 26 41 false)])
 (.cond (.t 42)
 (.reg [] [(m 43 8),(k (.st 1 (.t 6) (.t 43))),(k (.st 1 (.t 7) (.c (.bool true))))])
 .skip)))
def L8:FnC:=⟨46,[(.t 4),(.t 5)],(.seq (.reg [1,2] [(i 2 (.box (.t 0))),(vi 4 0),(i 5 (.mov (.c (.bool false))))])
 (.seq (.reg [1,2,6,7] [(i 6 (.all [(.int .i64 0)])),(i 7 (.all [(.bool false)])),(k (.st 1 (.t 6) (.c (.int .i64 0)))),(k (.st 1 (.t 7) (.c (.bool false))))])
 (.seq (.seq (.reg [1,2,6,7,12] [(z 9 2),(m 10 1),(i 11 (.call (.f I5) [(.t 9),(.t 10)])),(i 12 (.un .not (.t 11)))])
 (.cond (.t 12)
 (.seq (.drw [4,5] 0 [(z 13 6),(z 14 7),(m 4 13),(m 5 14)])
 .ret)
 .skip))
 (.seq (.seq (.reg [2,6,7,18] [(z 15 2),(m 16 1),(i 17 (.call (.f H9) [(.t 15),(.t 16)])),(i 18 (.call (.f B7) [(.t 17)]))])
 (.block 0 (.rng (.t 18) [19] Nt Ns)))
 (.seq (.drw [4,5] 0 [(z 44 6),(z 45 7),(m 4 44),(m 5 45)])
 .ret)))))⟩
def O1:FnC:=⟨9,[(.v (some 16) 4)],(.seq (.reg [2,3,4] [(i 2 (.box (.t 0))),(i 3 (.box (.t 1))),(i 4 (.all [(.int .u64 0),(.int .u64 0),(.int .u64 0),(.int .u64 0),(.int .u64 0),(.int .u64 0),(.int .u64 0),(.int .u64 0),(.int .u64 0),(.int .u64 0),(.int .u64 0),(.int .u64 0),(.int .u64 0),(.int .u64 0),(.int .u64 0),(.int .u64 0)]))])
 (.seq (.reg [4] [(z 5 2),(z 6 3),(i 7 (.mkf (.func Cs) [] [(.t 2),(.t 3)])),(i 8 (.call (.f D8) [(.t 5),(.t 6),(.t 7)])),(k (.st 16 (.t 4) (.t 8)))])
 .ret))⟩
def Fi:C:=(.seq (.seq (.reg [0,1,2,6,7,8,13] [(m 11 8),(m 12 1),(bt 13 .leq 11 12)])
 (.cond (.t 13)
 .skip
 (.exit 0)))
 (.block 1 (.seq (.reg [0,1,2,6,8] [(m 14 0),(m 15 7),(m 16 8),(m 17 2),(i 18 (.call (.f An) [(.t 14),(.t 15),(.t 16),(.t 17)]))])
 (.seq (.reg [0,1,2,6,7,8] [(m 19 8),(m 7 19)])
 (.reg [0,1,2,6,7,8] [(m 20 8),(m 21 6),(bt 22 .add 20 21),(m 8 22)])))))
def Fh:C:=(.seq (.seq (.reg [0,1,2,6,7,8,35] [(m 33 8),(m 34 1),(bt 35 .leq 33 34)])
 (.cond (.t 35)
 .skip
 (.exit 4)))
 (.block 5 (.seq (.reg [0,1,2,6,8] [(m 36 0),(m 37 7),(m 38 7),(m 39 6),(bt 40 .add 38 39),(m 41 8),(m 42 2),(i 43 (.call (.f Ai) [(.t 36),(.t 37),(.t 40),(.t 41),(.t 42)]))])
 (.seq (.reg [0,1,2,6,7,8] [(m 44 8),(m 7 44)])
 (.reg [0,1,2,6,7,8] [(m 45 8),(m 46 6),(i 47 (.bin .mul .other (.c (.int .i64 2)) (.t 46))),(bt 48 .add 45 47),(m 8 48)])))))
def Fg:C:=(.seq (.seq (.reg [0,1,2,6,30] [(m 28 6),(m 29 1),(bt 30 .lss 28 29)])
 (.cond (.t 30)
 .skip
 (.exit 2)))
 (.block 3 (.seq (.reg [0,1,2,6,7,8] [(m 31 6),(i 32 (.bin .mul .other (.c (.int .i64 2)) (.t 31))),(vi 7 0),(m 8 32)])
 (.seq (.block 4 (.loop Fh))
 (.seq (.seq (.reg [0,1,2,6,7,9] [(m 49 7),(m 50 6),(bt 51 .add 49 50),(m 9 51)])
 (.seq (.reg [0,1,2,6,7,9,54] [(m 52 9),(m 53 1),(bt 54 .lss 52 53)])
 (.cond (.t 54)
 (.reg [0,1,2,6] [(m 55 0),(m 56 7),(m 57 9),(m 58 1),(m 59 2),(i 60 (.call (.f Ai) [(.t 55),(.t 56),(.t 57),(.t 58),(.t 59)]))])
 .skip)))
 (.reg [0,1,2,6] [(m 61 6),(bc 62 .mul 61 2),(m 6 62)]))))))
def Dw:FnC:=⟨63,[],(.seq (.reg [0,1,2,6] [(vi 6 20)])
 (.seq (.reg [0,1,2,6,7,8] [(m 10 6),(vi 7 0),(m 8 10)])
 (.seq (.block 0 (.loop Fi))
 (.seq (.reg [0,1,2,6] [(m 23 0),(m 24 7),(m 25 1),(m 26 2),(i 27 (.call (.f An) [(.t 23),(.t 24),(.t 25),(.t 26)]))])
 (.block 2 (.loop Fg))))))⟩
def L6:FnC:=⟨9,[(.t 2)],(.seq (.reg [0] [(i 2 (.mov (.c (.bool false))))])
 (.seq (.reg [2] [(m 3 0),(bc 4 .geq 3 0),(m 5 4),(wm 6 5 true 0),(w 7 5 true (.bin .leq .other (.t 6) (.c (.int .i64 2147483647)))),(pk 8 5 7 false),(m 2 8)])
 .ret))⟩
def L5:FnC:=⟨64,[(.t 2)],(.seq (.reg [0,1] [(i 2 (.mov (.c (.bool false))))])
 (.seq (.reg [2] ((y 3 0 0) :: (z 4 3) :: (i 5 (.call (.f Ll) [(.t 4)])) :: (m 6 5) :: (w 7 6 true (.fld 0 (.t 0))) :: (w 8 6 true (.ld none (.t 7))) :: (w 9 6 true (.lens true (.t 8))) :: (w 10 6 true (.bin .leq .other (.t 9) (.c (.int .i64 32)))) :: (pk 11 6 10 false) :: (m 12 11) :: (w 13 12 true (.fld 1 (.t 0))) :: (w 14 12 true (.ld none (.t 13))) :: (w 15 12 true (.fld 2 (.t 0))) :: (w 16 12 true (.ld none (.t 15))) :: (w 17 12 true (.fld 3 (.t 0))) :: (w 18 12 true (.ld none (.t 17))) :: (w 19 12 true (.fld 5 (.t 0))) :: (w 20 12 true (.ld none (.t 19))) :: (w 21 12 true (.min (.t 14) [(.t 16),(.t 18),(.t 20)])) :: (w 22 12 true (.bin .gtr .other (.t 21) (.c (.int .i64 0)))) :: (pk 23 12 22 false) :: (m 24 23) :: (w 25 24 true (.ld none (.t 1))) :: (w 26 24 true (.fld 1 (.t 0))) :: (w 27 24 true (.ld none (.t 26))) :: (w 28 24 true (.call (.t 25) [(.t 27)])) :: (pk 29 24 28 false) :: (m 30 29) :: (w 31 30 true (.ld none (.t 1))) :: (w 32 30 true (.fld 2 (.t 0))) :: (w 33 30 true (.ld none (.t 32))) :: (w 34 30 true (.call (.t 31) [(.t 33)])) :: (pk 35 30 34 false) :: (m 36 35) :: (w 37 36 true (.ld none (.t 1))) :: (w 38 36 true (.fld 3 (.t 0))) :: (w 39 36 true (.ld none (.t 38))) :: (w 40 36 true (.call (.t 37) [(.t 39)])) :: (pk 41 36 40 false) :: (m 42 41) :: [(w 43 42 true (.ld none (.t 1))),(w 44 42 true (.fld 5 (.t 0))),(w 45 42 true (.ld none (.t 44))),(w 46 42 true (.call (.t 43) [(.t 45)])),(pk 47 42 46 false),(m 48 47),(w 49 48 true (.ld none (.t 1))),(w 50 48 true (.fld 4 (.t 0))),(w 51 48 true (.ld none (.t 50))),(w 52 48 true (.call (.t 49) [(.t 51)])),(pk 53 48 52 false),(m 54 53),(w 55 54 true (.fld 6 (.t 0))),(w 56 54 true (.ld none (.t 55))),(w 57 54 true (.bin .geq .other (.t 56) (.c (.int .i64 1)))),(pk 58 54 57 false),(m 59 58),(w 60 59 true (.fld 6 (.t 0))),(w 61 59 true (.ld none (.t 60))),(w 62 59 true (.bin .leq .other (.t 61) (.c (.int .i64 1048576)))),(pk 63 59 62 false),(m 2 63)]))
 .ret))⟩
def Lz:FnC:=⟨24,[(.t 1)],(.seq (.reg [0] [(i 1 (.mov (.c (.bool false))))])
 (.seq (.reg [1] [(y 2 5 0),(z 3 2),(y 4 1 0),(z 5 4),(bt 6 .leq 3 5),(m 7 6),(w 8 7 true (.fld 1 (.t 0))),(w 9 7 true (.ld none (.t 8))),(w 10 7 true (.fld 4 (.t 0))),(w 11 7 true (.ld none (.t 10))),(w 12 7 true (.bin .add .other (.t 9) (.t 11))),(w 13 7 true (.fld 3 (.t 0))),(w 14 7 true (.ld none (.t 13))),(w 15 7 true (.bin .leq .other (.t 12) (.t 14))),(pk 16 7 15 false),(m 17 16),(w 18 17 true (.fld 3 (.t 0))),(w 19 17 true (.ld none (.t 18))),(w 20 17 true (.fld 2 (.t 0))),(w 21 17 true (.ld none (.t 20))),(w 22 17 true (.bin .leq .other (.t 19) (.t 21))),(pk 23 17 22 false),(m 1 23)])
 .ret))⟩
def Rc:C:=(.seq (.reg [3,6,7,8] [(bc 8 .lss 7 2)])
 (.seq (.cond (.t 8)
 .skip
 (.exit 0))
 (.seq (.block 1 (.seq (.reg [3,5,6,7] [(i 9 (.ixv 2 2 (some 2) (.t 6) (.t 7))),(i 5 (.all [.nilFunc,(.int .i64 0)])),(k (.st 2 (.t 5) (.t 9)))])
 (.seq (.reg [3,5,6,7,13] [(y 10 0 5),(z 11 10),(i 12 (.call (.t 11) [])),(i 13 (.un .not (.t 12)))])
 (.cond (.t 13)
 (.seq (.reg [3] [(y 14 1 5),(z 15 14),(m 3 15)])
 (.exit 0))
 .skip))))
 (.reg [3,6,7] [(bc 16 .add 7 1),(m 7 16)]))))
def Qx:FnC:=⟨18,[(.t 2)],(.seq (.reg [1] [(i 1 (.box (.t 0))),(vi 2 0)])
 (.seq (.reg [1,3] [(vi 3 0)])
 (.seq .skip
 (.seq (.seq (.reg [3,6,7] [(i 6 (.ld (some 4) (.t 1))),(vi 7 0)])
 (.block 0 (.loop Rc)))
 (.seq (.reg [2] [(m 17 3),(m 2 17)])
 .ret)))))⟩
def Tc:FnC:=⟨24,[(.t 4)],(.seq (.reg [0,1] [(i 4 (.mov (.c (.bool false))))])
 (.seq (.reg [0,1,6] [(m 8 0),(i 9 (.call (.f Bw) [(.t 8)])),(m 7 9),(i 10 (.ext (.t 7) 0)),(i 11 (.ext (.t 7) 1)),(m 5 10),(m 6 11)])
 (.seq (.reg [4] [(m 12 6),(bc 13 .eql 12 0),(m 14 13),(wm 15 14 true 1),(w 16 14 true (.bin .geq .other (.t 15) (.c (.int .i64 0)))),(pk 17 14 16 false),(m 18 17),(wm 19 18 true 1),(wm 20 18 true 0),(w 21 18 true (.lens false (.t 20))),(w 22 18 true (.bin .lss .other (.t 19) (.t 21))),(pk 23 18 22 false),(m 4 23)])
 .ret)))⟩
def Wz:C:=(.seq (.reg [0,9,10,11,12] [(bt 12 .lss 11 10)])
 (.seq (.cond (.t 12)
 .skip
 (.exit 0))
 (.seq (.block 1 (.seq (.reg [0,6,9,10,11] [(q 13 1 9 11),(z 14 13),(m 6 14)])
 (.seq (.reg [7,8,9,10,11] [(m 16 0),(m 17 6),(i 18 (.call (.f Pj) [(.t 16),(.t 17)])),(m 15 18),(i 19 (.ext (.t 15) 0)),(i 20 (.ext (.t 15) 1)),(m 7 19),(m 8 20)])
 (.seq (.seq (.reg [7,9,10,11,22] [(m 21 8),(i 22 (.un .not (.t 21)))])
 (.cond (.t 22)
 (.seq (.reg [4] [(i 4 (.mov (.c (.int .u64 18446744073709551615))))])
 .ret)
 .skip))
 (.reg [0,9,10,11] [(m 23 7),(m 0 23)])))))
 (.reg [0,9,10,11] [(bc 24 .add 11 1),(m 11 24)]))))
def Ye:FnC:=⟨26,[(.t 4)],(.seq (.reg [0,1] [(i 4 (.mov (.c (.int .u64 0))))])
 (.seq (.seq (.reg [0,9,10,11] [(m 9 1),(i 10 (.lens false (.t 9))),(vi 11 0)])
 (.block 0 (.loop Wz)))
 (.seq (.reg [4] [(m 25 0),(m 4 25)])
 .ret)))⟩
def On:C:=(.reg [2,5,6] [(m 6 16)])
def Om:C:=(.block 1 (.drw [] 0 [(z 17 5),(z 18 2),(m 19 6),(q 20 7 18 19),(y 21 5 20),(z 22 21),(bc 23 .sub 22 1),(i 24 (.max (.t 17) [(.t 23)])),(k (.st 1 (.t 5) (.t 24)))]))
def N3:FnC:=⟨26,[(.t 4)],(.seq (.reg [1,2] [(i 2 (.box (.t 0))),(vi 4 0)])
 (.seq (.reg [1,2,5] [(i 5 (.all [(.int .i64 0)])),(k (.st 1 (.t 5) (.c (.int .i64 0))))])
 (.seq (.seq (.reg [1,2,5,10] [(z 7 2),(m 8 1),(i 9 (.call (.f Gw) [(.t 7),(.t 8)])),(i 10 (.un .not (.t 9)))])
 (.cond (.t 10)
 (.seq (.reg [4] [(z 11 5),(m 4 11)])
 .ret)
 .skip))
 (.seq (.seq (.reg [2,5,15] [(z 12 2),(m 13 1),(i 14 (.call (.f H9) [(.t 12),(.t 13)])),(i 15 (.call (.f B7) [(.t 14)]))])
 (.block 0 (.rng (.t 15) [16] On Om)))
 (.seq (.reg [4] [(z 25 5),(m 4 25)])
 .ret)))))⟩
def N2:C:=(.reg [3,5,7,8] [(m 8 22)])
def Nz:C:=(.block 1 (.drw [] 1 [⟨(some 23),none,(.ld none (.t 7)),true,0,false⟩,(z 24 3),(m 25 8),(q 26 7 24 25),(i 27 (.ld (some 7) (.t 26))),(z 28 5),⟨(some 29),none,(.call (.f Gv) [(.t 27),(.t 28)]),true,0,false⟩,(z 30 3),(m 31 8),(q 32 7 30 31),(y 33 1 32),(z 34 33),(i 35 (.cvi .u64 (.t 34))),⟨(some 36),none,(.call (.f Lo) [(.t 29),(.t 35)]),true,0,false⟩,(i 37 (.bsl 1 [(.int .u64 0)] 1 [(0,(1,(.t 36)))])),⟨(some 38),none,(.call (.f Jg) [(.t 23),(.t 37)]),false,1,false⟩,⟨none,none,(.st 1 (.t 7) (.t 38)),false,1,false⟩]))
def Md:FnC:=⟨40,[(.t 6)],(.seq (.reg [1,3,5] [(i 3 (.box (.t 0))),(i 5 (.box (.t 2))),(i 6 (.mov (.c (.int .u64 0))))])
 (.seq (.reg [1,3,5,7] [(i 7 (.all [(.int .u64 0)])),(k (.st 1 (.t 7) (.c (.int .u64 0))))])
 (.seq (.seq (.reg [1,3,5,7,16] [(z 9 5),(i 10 (.bin .eql .other (.t 9) (.c (.int .u64 0)))),(m 11 10),(w 12 11 false (.ld none (.t 3))),(wm 13 11 false 1),(w 14 11 false (.call (.f Gw) [(.t 12),(.t 13)])),(w 15 11 false (.un .not (.t 14))),(i 16 (.pick (.t 11) (.c (.bool true)) (.t 15)))])
 (.cond (.t 16)
 (.seq (.reg [6] [(z 17 7),(m 6 17)])
 .ret)
 .skip))
 (.seq (.seq (.reg [3,5,7,21] [(z 18 3),(m 19 1),(i 20 (.call (.f Ej) [(.t 18),(.t 19)])),(i 21 (.call (.f B7) [(.t 20)]))])
 (.block 0 (.rng (.t 21) [22] N2 Nz)))
 (.seq (.reg [6] [(z 39 7),(m 6 39)])
 .ret)))))⟩
def Q1:FnC:=⟨9,[(.t 2)],(.seq (.reg [0] [(i 2 (.mov (.c (.bool false))))])
 (.seq (.reg [2] [(m 3 0),(i 4 (.bin .geq .other (.t 3) (.c (.int .u8 48)))),(m 5 4),(wm 6 5 true 0),(w 7 5 true (.bin .leq .other (.t 6) (.c (.int .u8 57)))),(pk 8 5 7 false),(m 2 8)])
 .ret))⟩
def J6:C:=(.seq (.reg [0,2,7,8,10,11,12,24,25,26,80,81,82,83] [(bt 83 .lss 82 81)])
 (.seq (.cond (.t 83)
 .skip
 (.exit 2))
 (.seq (.block 3 (.seq (.reg [0,2,7,8,10,11,12,14,24,25,26,80,81,82] [(q 84 1 80 82),(z 85 84),(m 14 85)])
 (.seq (.seq (.reg [0,2,7,8,10,11,12,14,24,25,26,80,81,82,93] [(m 86 7),(m 87 14),(y 88 5 11),(z 89 88),(m 90 12),(i 91 (.min (.t 89) [(.t 90)])),(i 92 (.call (.t 86) [(.t 87),(.c (.int .i64 1)),(.t 91)])),(i 93 (.un .not (.t 92)))])
 (.cond (.t 93)
 (.seq (.reg [6] [(i 6 (.mov (.c (.bool false))))])
 .ret)
 .skip))
 (.reg [0,2,7,8,10,11,12,24,25,26,80,81,82] [(m 94 12),(m 95 14),(bt 96 .sub 94 95),(m 12 96)]))))
 (.reg [0,2,7,8,10,11,12,24,25,26,80,81,82] [(bc 97 .add 82 1),(m 82 97)]))))
def Oj:C:=(.seq (.reg [0,2,7,8,24,25,26,27] [(bt 27 .lss 26 25)])
 (.seq (.cond (.t 27)
 .skip
 (.exit 0))
 (.seq (.block 1 (.seq (.reg [0,2,7,8,10,24,25,26] [(q 28 5 24 26),(i 29 (.ld (some 5) (.t 28))),(i 10 (.all [(.int .i64 0),(.int .i64 0),(.int .i64 0),(.int .i64 0),(.slice none 0 0)])),(k (.st 5 (.t 10) (.t 29)))])
 (.seq (.seq (.reg [0,2,7,8,10,24,25,26,39] [(y 30 0 10),(z 31 30),(bc 32 .lss 31 0),(m 33 32),(w 34 33 false (.fld 0 (.t 10))),(w 35 33 false (.ld none (.t 34))),(wm 36 33 false 0),(w 37 33 false (.lens false (.t 36))),(w 38 33 false (.bin .geq .other (.t 35) (.t 37))),(i 39 (.pick (.t 33) (.c (.bool true)) (.t 38)))])
 (.cond (.t 39)
 (.seq (.reg [6] [(i 6 (.mov (.c (.bool false))))])
 .ret)
 .skip))
 (.seq (.reg [0,2,7,8,10,11,24,25,26] [(m 40 0),(y 41 0 10),(z 42 41),(q 43 7 40 42),(i 44 (.ld (some 7) (.t 43))),(i 11 (.all [(.string ⟨#[]⟩),(.int .i64 0),(.int .i64 0),(.int .i64 0),(.int .i64 0),(.int .i64 0),(.int .i64 0)])),(k (.st 7 (.t 11) (.t 44)))])
 (.seq (.seq (.reg [0,2,7,8,10,11,24,25,26,76] [(m 45 7),(y 46 1 10),(z 47 46),(m 48 8),(y 49 0 10),(z 50 49),(i 51 (.look .int (.int .i64 0) (.t 48) (.t 50) false)),(i 52 (.call (.t 45) [(.t 47),(.t 51),(.c (.int .i64 17592186044416))])),(i 53 (.un .not (.t 52))),(m 54 53),(wm 55 54 false 7),(w 56 54 false (.fld 2 (.t 10))),(w 57 54 false (.ld none (.t 56))),(w 58 54 false (.fld 1 (.t 10))),(w 59 54 false (.ld none (.t 58))),(w 60 54 false (.fld 1 (.t 10))),(w 61 54 false (.ld none (.t 60))),(w 62 54 false (.fld 4 (.t 11))),(w 63 54 false (.ld none (.t 62))),(w 64 54 false (.bin .add .other (.t 61) (.t 63))),(w 65 54 false (.call (.t 55) [(.t 57),(.t 59),(.t 64)])),(w 66 54 false (.un .not (.t 65))),(i 67 (.pick (.t 54) (.c (.bool true)) (.t 66))),(m 68 67),(wm 69 68 false 7),(w 70 68 false (.fld 3 (.t 10))),(w 71 68 false (.ld none (.t 70))),(w 72 68 false (.fld 1 (.t 11))),(w 73 68 false (.ld none (.t 72))),(w 74 68 false (.call (.t 69) [(.t 71),(.c (.int .i64 1)),(.t 73)])),(w 75 68 false (.un .not (.t 74))),(i 76 (.pick (.t 68) (.c (.bool true)) (.t 75)))])
 (.cond (.t 76)
 (.seq (.reg [6] [(i 6 (.mov (.c (.bool false))))])
 .ret)
 .skip))
 (.seq (.reg [0,2,7,8,10,11,12,24,25,26] [(y 77 3 10),(z 78 77),(m 12 78)])
 (.seq (.seq (.reg [0,2,7,8,10,11,12,24,25,26,80,81,82] [(y 79 4 10),(z 80 79),(i 81 (.lens false (.t 80))),(vi 82 0)])
 (.block 2 (.loop J6)))
 (.seq (.reg [0,2,7,8,10,11,24,25,26] [(m 98 2),(i 99 (.ld (some 5) (.t 10))),(y 100 1 10),(z 101 100),(m 102 8),(y 103 0 10),(z 104 103),(i 105 (.look .int (.int .i64 0) (.t 102) (.t 104) false)),(bt 106 .sub 101 105),(i 107 (.call (.t 98) [(.t 99),(.t 106)]))])
 (.reg [0,2,7,8,24,25,26] [(m 108 8),(y 109 0 10),(z 110 109),(y 111 1 10),(z 112 111),(y 113 2 11),(z 114 113),(bt 115 .add 112 114),(k (.mup .int (.t 108) (.t 110) (.t 115)))])))))))))
 (.reg [0,2,7,8,24,25,26] [(bc 116 .add 26 1),(m 26 116)]))))
def Nq:FnC:=⟨117,[(.t 6)],(.seq (.reg [0,1,2] [(i 6 (.mov (.c (.bool false))))])
 (.seq (.seq (.reg [0,1,2,22] [(m 15 0),(i 16 (.call (.f Jt) [(.t 15)])),(i 17 (.un .not (.t 16))),(m 18 17),(wm 19 18 false 1),(w 20 18 false (.lens false (.t 19))),(w 21 18 false (.bin .gtr .other (.t 20) (.c (.int .i64 4096)))),(i 22 (.pick (.t 18) (.c (.bool true)) (.t 21)))])
 (.cond (.t 22)
 (.seq (.reg [6] [(i 6 (.mov (.c (.bool false))))])
 .ret)
 .skip))
 (.seq (.reg [0,1,2,7] [(i 7 (.mov (.f Br)))])
 (.seq (.reg [0,1,2,7,8] [(i 23 .mkm),(m 8 23)])
 (.seq (.seq (.reg [0,2,7,8,24,25,26] [(m 24 1),(i 25 (.lens false (.t 24))),(vi 26 0)])
 (.block 0 (.loop Oj)))
 (.seq (.reg [6] [(i 6 (.mov (.c (.bool true))))])
 .ret))))))⟩
def J8:FnC:=⟨4,[],(.reg [] [(i 2 (.box (.t 0)))])⟩
def J5:FnC:=⟨17,[(.t 5)],(.seq (.reg [0,1,2] [(vi 5 0)])
 (.seq (.drw [5] 0 [(z 6 2),(m 7 0),(q 8 5 6 7),(y 9 2 8),(z 10 9),(z 11 2),(m 12 1),(q 13 5 11 12),(y 14 2 13),(z 15 14),(i 16 (.call (.f Dh) [(.t 10),(.t 15)])),(m 5 16)])
 .ret))⟩
def Iu:FnC:=⟨20,[(.t 4)],(.seq (.reg [0,1] [(vi 4 0)])
 (.seq (.reg [0,1,5] [(m 7 0),(i 8 (.call (.f C9) [(.t 7)])),(m 5 8)])
 (.seq (.reg [0,1,5,6] [(m 9 1),(i 10 (.call (.f C9) [(.t 9)])),(m 6 10)])
 (.seq (.seq (.reg [0,1,6,11] [(m 11 5)])
 (.cond (.t 11)
 (.seq (.seq (.reg [12] [(m 12 6)])
 (.cond (.t 12)
 (.seq (.reg [4] [(vi 4 0)])
 .ret)
 .skip))
 (.seq (.reg [4] [(vi 4 (-1))])
 .ret))
 .skip))
 (.seq (.seq (.reg [0,1,13] [(m 13 6)])
 (.cond (.t 13)
 (.seq (.reg [4] [(vi 4 1)])
 .ret)
 .skip))
 (.seq (.seq (.reg [0,1,16] [(m 14 0),(m 15 1),(bt 16 .lss 14 15)])
 (.cond (.t 16)
 (.seq (.reg [4] [(vi 4 (-1))])
 .ret)
 .skip))
 (.seq (.seq (.reg [19] [(m 17 0),(m 18 1),(bt 19 .gtr 17 18)])
 (.cond (.t 19)
 (.seq (.reg [4] [(vi 4 1)])
 .ret)
 .skip))
 (.seq (.reg [4] [(vi 4 0)])
 .ret))))))))⟩
def Fb:C:=(.seq (.seq (.reg [0,4,44] [(m 35 4),(bc 36 .gtr 35 0),(m 37 36),(wm 38 37 true 0),(wm 39 37 true 4),(wm 40 37 true 4),(w 41 37 true (.bin .sub .other (.t 40) (.c (.int .i64 1)))),(w 42 37 true (.bin .quo .other (.t 41) (.c (.int .i64 2)))),(w 43 37 true (.call (.f B3) [(.t 38),(.t 39),(.t 42)])),(pk 44 37 43 false)])
 (.cond (.t 44)
 .skip
 (.exit 0)))
 (.block 1 (.seq (.reg [0,4] [(m 45 0),(m 46 4),(m 47 4),(bc 48 .sub 47 1),(bc 49 .quo 48 2),(i 50 (.call (.f Bv) [(.t 45),(.t 46),(.t 49)]))])
 (.reg [0,4] [(m 51 4),(bc 52 .sub 51 1),(bc 53 .quo 52 2),(m 4 53)]))))
def G6:FnC:=⟨54,[],(.seq (.seq (.reg [0,1,6] [(m 5 0),(i 6 (.bin .eql .ptr (.t 5) (.c (.pointer none))))])
 (.cond (.t 6)
 .ret
 .skip))
 (.seq (.drw [0] 1 [(m 7 0),(m 8 0),(u 9 8),(y 10 1 9),⟨(some 11),none,(.ld none (.t 10)),true,0,false⟩,(m 12 1),(m 13 0),(u 14 13),(y 15 2 14),(z 16 15),(i 17 (.bld [(.int .i64 0),(.int .u64 0)] [(0,(1,(.t 12))),(1,(1,(.t 16)))])),(i 18 (.bsl 2 [(.int .i64 0),(.int .u64 0)] 1 [(0,(2,(.t 17)))])),⟨(some 19),none,(.app 2 16 (.t 11) (.t 18)),false,1,false⟩,⟨(some 20),none,(.nil (.t 7)),false,1,false⟩,⟨(some 21),none,(.fld 1 (.t 20)),false,1,false⟩,⟨none,none,(.st 1 (.t 21) (.t 19)),false,1,false⟩])
 (.seq (.reg [0] [(m 22 0),(u 23 22),(y 24 2 23),(z 25 24),(i 26 (.bin .add .other (.t 25) (.c (.int .u64 1)))),(u 27 22),(y 28 2 27),(k (.st 1 (.t 28) (.t 26)))])
 (.seq (.reg [0,4] [(m 29 0),(u 30 29),(y 31 1 30),(z 32 31),(i 33 (.lens false (.t 32))),(bc 34 .sub 33 1),(m 4 34)])
 (.block 0 (.loop Fb))))))⟩
def Gd:FnC:=⟨155,[],(.seq (.reg [0,1,4] [(m 7 0),(u 8 7),(y 9 7 8),(z 10 9),(m 4 10)])
 (.seq (.reg [0,1,4,5] [(m 11 0),(u 12 11),(y 13 5 12),(z 14 13),(i 15 (.lens false (.t 14))),(bc 16 .sub 15 1),(m 5 16)])
 (.seq (.seq (.drw [0,1,4,5,48] 0 [(m 17 5),(bc 18 .geq 17 0),(m 19 18),(wm 20 19 true 0),(w 21 19 true (.nil (.t 20))),(w 22 19 true (.fld 5 (.t 21))),(w 23 19 true (.ld none (.t 22))),(wm 24 19 true 5),(w 25 19 true (.ixs 3 (.t 23) (.t 24))),(w 26 19 true (.fld 0 (.t 25))),(w 27 19 true (.ld none (.t 26))),(wm 28 19 true 4),(w 29 19 true (.nil (.t 28))),(w 30 19 true (.fld 0 (.t 29))),(w 31 19 true (.ld none (.t 30))),(w 32 19 true (.bin .eql .other (.t 27) (.t 31))),(pk 33 19 32 false),(m 34 33),(wm 35 34 true 0),(w 36 34 true (.nil (.t 35))),(w 37 34 true (.fld 5 (.t 36))),(w 38 34 true (.ld none (.t 37))),(wm 39 34 true 5),(w 40 34 true (.ixs 3 (.t 38) (.t 39))),(w 41 34 true (.fld 2 (.t 40))),(w 42 34 true (.ld none (.t 41))),(wm 43 34 true 0),(w 44 34 true (.nil (.t 43))),(w 45 34 true (.fld 4 (.t 44))),(w 46 34 true (.ld none (.t 45))),(w 47 34 true (.bin .eql .other (.t 42) (.t 46))),(pk 48 34 47 false)])
 (.cond (.t 48)
 (.reg [0,1,4] [(m 49 0),(u 50 49),(y 51 5 50),(z 52 51),(m 53 5),(q 54 3 52 53),(y 55 2 54),(z 56 55),(m 57 1),(bt 58 .add 56 57),(q 59 3 52 53),(y 60 2 59),(k (.st 1 (.t 60) (.t 58)))])
 (.drw [0,1,4] 1 [(m 61 0),(m 62 0),(u 63 62),(y 64 5 63),⟨(some 65),none,(.ld none (.t 64)),true,0,false⟩,(m 66 4),(u 67 66),(y 68 0 67),(z 69 68),(m 70 0),(u 71 70),(y 72 4 71),(z 73 72),(m 74 0),(u 75 74),(y 76 4 75),(z 77 76),(m 78 1),(bt 79 .add 77 78),(i 80 (.bld [(.int .i64 0),(.int .i64 0),(.int .i64 0)] [(0,(1,(.t 69))),(1,(1,(.t 73))),(2,(1,(.t 79)))])),(i 81 (.bsl 3 [(.int .i64 0),(.int .i64 0),(.int .i64 0)] 1 [(0,(3,(.t 80)))])),⟨(some 82),none,(.app 3 24 (.t 65) (.t 81)),false,1,false⟩,⟨(some 83),none,(.nil (.t 61)),false,1,false⟩,⟨(some 84),none,(.fld 5 (.t 83)),false,1,false⟩,⟨none,none,(.st 1 (.t 84) (.t 82)),false,1,false⟩])))
 (.seq (.reg [0,1,4] [(m 85 0),(u 86 85),(y 87 4 86),(z 88 87),(m 89 1),(bt 90 .add 88 89),(u 91 85),(y 92 4 91),(k (.st 1 (.t 92) (.t 90)))])
 (.seq (.reg [0,1,4] [(m 93 4),(u 94 93),(y 95 2 94),(z 96 95),(m 97 1),(bt 98 .sub 96 97),(u 99 93),(y 100 2 99),(k (.st 1 (.t 100) (.t 98)))])
 (.seq (.reg [0,4] [(m 101 4),(m 102 4),(u 103 102),(y 104 3 103),(z 105 104),(m 106 1),(bt 107 .sub 105 106),(i 108 (.max (.t 107) [(.c (.int .i64 0))])),(u 109 101),(y 110 3 109),(k (.st 1 (.t 110) (.t 108)))])
 (.seq (.reg [0,4,115] [(m 111 4),(u 112 111),(y 113 2 112),(z 114 113),(bc 115 .eql 114 0)])
 (.cond (.t 115)
 (.seq (.drw [0,4] 0 [(m 116 0),(u 117 116),(y 118 6 117),(z 119 118),(m 120 4),(u 121 120),(y 122 0 121),(z 123 122),(m 124 0),(u 125 124),(y 126 4 125),(z 127 126),(q 128 1 119 123),(k (.st 1 (.t 128) (.t 127)))])
 (.seq (.reg [0,4] [(m 129 0),(u 130 129),(y 131 7 130),(k (.st 1 (.t 131) (.c (.pointer none))))])
 (.seq (.drw [0,4,6] 0 [(m 132 0),(u 133 132),(y 134 3 133),(z 135 134),(m 136 4),(u 137 136),(y 138 1 137),(z 139 138),(i 140 (.look .int (.pointer none) (.t 135) (.t 139) false)),(m 6 140)])
 (.seq (.reg [0,4,6] [(m 141 6),(i 142 (.call (.f A8) [(.t 141)]))])
 (.seq (.reg [0,4,145] [(m 143 6),(i 144 (.call (.f Ar) [(.t 143)])),(bc 145 .gtr 144 0)])
 (.cond (.t 145)
 (.drw [] 0 [(m 146 0),(u 147 146),(y 148 2 147),(z 149 148),(m 150 4),(u 151 150),(y 152 1 151),(z 153 152),(i 154 (.call (.f Bb) [(.t 149),(.t 153)]))])
 .skip))))))
 .skip))))))))⟩
def Gi:C:=(.seq (.seq (.drw [0,30] 0 [(m 5 0),(u 6 5),(y 7 1 6),(z 8 7),(i 9 (.lens false (.t 8))),(bc 10 .gtr 9 0),(m 11 10),(wm 12 11 true 0),(w 13 11 true (.nil (.t 12))),(w 14 11 true (.fld 0 (.t 13))),(w 15 11 true (.ld none (.t 14))),(wm 16 11 true 0),(w 17 11 true (.nil (.t 16))),(w 18 11 true (.fld 1 (.t 17))),(w 19 11 true (.ld none (.t 18))),(w 20 11 true (.ixs 1 (.t 19) (.c (.int .i64 0)))),(w 21 11 true (.ld none (.t 20))),(w 22 11 true (.ixs 5 (.t 15) (.t 21))),(w 23 11 true (.fld 2 (.t 22))),(w 24 11 true (.ld none (.t 23))),(wm 25 11 true 0),(w 26 11 true (.nil (.t 25))),(w 27 11 true (.fld 4 (.t 26))),(w 28 11 true (.ld none (.t 27))),(w 29 11 true (.bin .leq .other (.t 24) (.t 28))),(pk 30 11 29 false)])
 (.cond (.t 30)
 .skip
 (.exit 0)))
 (.block 1 (.seq (.reg [0,2] [(m 31 0),(u 32 31),(y 33 1 32),(z 34 33),(i 35 (.ixs 1 (.t 34) (.c (.int .i64 0)))),(z 36 35),(m 2 36)])
 (.seq (.reg [0,2] [(m 37 0),(m 38 0),(u 39 38),(y 40 1 39),(z 41 40),(i 42 (.sls 1 (.t 41) (some (.c (.int .i64 1))) none none)),(u 43 37),(y 44 1 43),(k (.st 1 (.t 44) (.t 42)))])
 (.seq (.reg [0,2,3] [(m 45 0),(u 46 45),(y 47 0 46),(z 48 47),(m 49 2),(q 50 5 48 49),(i 51 (.ld (some 5) (.t 50))),(i 3 (.all [(.int .i64 0),(.int .i64 0),(.int .i64 0),(.int .i64 0),(.slice none 0 0)])),(k (.st 5 (.t 3) (.t 51)))])
 (.seq (.drw [0,2,3,4] 0 [(m 52 0),(u 53 52),(y 54 3 53),(z 55 54),(y 56 0 3),(z 57 56),(i 58 (.look .int (.pointer none) (.t 55) (.t 57) false)),(m 4 58)])
 (.seq (.seq (.reg [0,2,3,4,60] [(m 59 4),(i 60 (.bin .eql .ptr (.t 59) (.c (.pointer none))))])
 (.cond (.t 60)
 (.seq (.reg [0,2,3,4] [(i 61 (.call (.f Cb) [(.c (.slice none 0 0))])),(m 4 61)])
 (.drw [0,2,3,4] 0 [(m 62 0),(u 63 62),(y 64 3 63),(z 65 64),(y 66 0 3),(z 67 66),(m 68 4),(k (.mup .int (.t 65) (.t 67) (.t 68)))]))
 .skip))
 (.seq (.reg [0,3,4] [(m 69 4),(m 70 2),(y 71 0 3),(z 72 71),(y 73 3 3),(z 74 73),(y 75 4 3),(z 76 75),(i 77 (.bld [(.int .i64 0),(.int .i64 0),(.int .i64 0),(.int .i64 0),(.slice none 0 0)] [(0,(1,(.t 70))),(1,(1,(.t 72))),(2,(1,(.t 74))),(4,(1,(.t 76)))])),(i 78 (.box (.t 77))),(i 79 (.call (.f Av) [(.t 69),(.t 78)]))])
 (.seq (.reg [0,3,82] [(m 80 4),(i 81 (.call (.f Ar) [(.t 80)])),(bc 82 .eql 81 1)])
 (.cond (.t 82)
 (.drw [0] 0 [(m 83 0),(u 84 83),(y 85 2 84),(z 86 85),(y 87 0 3),(z 88 87),(i 89 (.call (.f Bb) [(.t 86),(.t 88)]))])
 .skip))))))))))
def El:FnC:=⟨90,[],(.block 0 (.loop Gi))⟩
def Fd:FnC:=⟨86,[(.t 2)],(.seq (.reg [0] [(i 2 (.mov (.c (.bool false))))])
 (.seq (.seq (.reg [0,9] [(m 5 0),(u 6 5),(y 7 7 6),(z 8 7),(i 9 (.bin .neq .ptr (.t 8) (.c (.pointer none))))])
 (.cond (.t 9)
 (.seq (.drw [0] 0 [(m 10 0),(u 11 10),(y 12 2 11),(z 13 12),(m 14 0),(u 15 14),(y 16 7 15),(z 17 16),(u 18 17),(y 19 1 18),(z 20 19),(i 21 (.call (.f Bb) [(.t 13),(.t 20)]))])
 (.reg [0] [(m 22 0),(u 23 22),(y 24 7 23),(k (.st 1 (.t 24) (.c (.pointer none))))]))
 .skip))
 (.seq (.reg [0,3,4] [(m 26 0),(u 27 26),(y 28 2 27),(z 29 28),(i 30 (.call (.f Ck) [(.t 29)])),(m 25 30),(i 31 (.ext (.t 25) 0)),(i 32 (.ext (.t 25) 1)),(m 3 31),(m 4 32)])
 (.seq (.seq (.reg [0,3,34] [(m 33 4),(i 34 (.un .not (.t 33)))])
 (.cond (.t 34)
 (.seq (.reg [2] [(i 2 (.mov (.c (.bool false))))])
 .ret)
 .skip))
 (.seq (.reg [0] [(m 36 0),(m 37 0),(u 38 37),(y 39 3 38),(z 40 39),(m 41 3),(i 42 (.look .int (.pointer none) (.t 40) (.t 41) false)),(i 43 (.call (.f Az) [(.t 42),(.c (.int .i64 0))])),(m 35 43),(i 44 (.ext (.t 35) 0)),(i 45 (.ext (.t 35) 1)),(u 46 36),(y 47 7 46),(k (.st 1 (.t 47) (.t 44)))])
 (.seq (.seq (.reg [0,56] [(m 48 0),(u 49 48),(y 50 7 49),(z 51 50),(u 52 51),(y 53 4 52),(z 54 53),(i 55 (.lens false (.t 54))),(bc 56 .gtr 55 0)])
 (.cond (.t 56)
 (.seq (.drw [0] 0 [(m 57 0),(u 58 57),(y 59 7 58),(z 60 59),(m 61 0),(u 62 61),(y 63 7 62),(z 64 63),(u 65 64),(y 66 4 65),(z 67 66),(i 68 (.ixs 1 (.t 67) (.c (.int .i64 0)))),(z 69 68),(u 70 60),(y 71 3 70),(k (.st 1 (.t 71) (.t 69)))])
 (.drw [] 0 [(m 72 0),(u 73 72),(y 74 7 73),(z 75 74),(m 76 0),(u 77 76),(y 78 7 77),(z 79 78),(u 80 79),(y 81 4 80),(z 82 81),(i 83 (.sls 1 (.t 82) (some (.c (.int .i64 1))) none none)),(u 84 75),(y 85 4 84),(k (.st 1 (.t 85) (.t 83)))]))
 .skip))
 (.seq (.reg [2] [(i 2 (.mov (.c (.bool true))))])
 .ret)))))))⟩
def Ge:FnC:=⟨22,[(.t 2)],(.seq (.reg [0] [(vi 2 0)])
 (.seq (.seq (.reg [0,8] [(m 3 0),(u 4 3),(y 5 1 4),(z 6 5),(i 7 (.lens false (.t 6))),(bc 8 .eql 7 0)])
 (.cond (.t 8)
 (.seq (.reg [2] [(vi 2 9223372036854775807)])
 .ret)
 .skip))
 (.seq (.drw [2] 0 [(m 9 0),(u 10 9),(y 11 0 10),(z 12 11),(m 13 0),(u 14 13),(y 15 1 14),(z 16 15),(i 17 (.ixs 1 (.t 16) (.c (.int .i64 0)))),(z 18 17),(q 19 5 12 18),(y 20 2 19),(z 21 20),(m 2 21)])
 .ret)))⟩
def Qy:FnC:=⟨9,[(.v (some 16) 4)],(.seq (.reg [2,3,4] [(i 2 (.box (.t 0))),(i 3 (.box (.t 1))),(i 4 (.all [(.int .u64 0),(.int .u64 0),(.int .u64 0),(.int .u64 0),(.int .u64 0),(.int .u64 0),(.int .u64 0),(.int .u64 0),(.int .u64 0),(.int .u64 0),(.int .u64 0),(.int .u64 0),(.int .u64 0),(.int .u64 0),(.int .u64 0),(.int .u64 0)]))])
 (.seq (.reg [4] [(z 5 2),(z 6 3),(i 7 (.mkf (.func Db) [] [(.t 2),(.t 3)])),(i 8 (.call (.f D8) [(.t 5),(.t 6),(.t 7)])),(k (.st 16 (.t 4) (.t 8)))])
 .ret))⟩
def Rb:C:=(.seq (.reg [2,6,7,19,20,21,22] [(bt 22 .lss 21 20)])
 (.seq (.cond (.t 22)
 .skip
 (.exit 0))
 (.seq (.block 1 (.seq (.reg [2,6,7,8,9,19,20,21] [(m 23 21),(q 24 7 19 21),(i 25 (.ld (some 7) (.t 24))),(i 9 (.all [(.string ⟨#[]⟩),(.int .i64 0),(.int .i64 0),(.int .i64 0),(.int .i64 0),(.int .i64 0),(.int .i64 0)])),(m 8 23),(k (.st 7 (.t 9) (.t 25)))])
 (.seq (.reg [2,6,7,8,19,20,21,28] [(m 26 2),(i 27 (.ld (some 7) (.t 9))),(i 28 (.call (.t 26) [(.t 27)]))])
 (.cond (.t 28)
 (.reg [2,6,7,19,20,21] [(i 29 (.ld (some 16) (.t 7))),(m 30 8),(i 31 (.call (.f E5) [(.t 29),(.t 30)])),(k (.st 16 (.t 7) (.t 31)))])
 .skip))))
 (.reg [2,6,7,19,20,21] [(bc 32 .add 21 1),(m 21 32)]))))
def Qw:FnC:=⟨34,[(.v (some 16) 6)],(.seq (.reg [0,1,2,6] [(i 6 (.all [(.int .u64 0),(.int .u64 0),(.int .u64 0),(.int .u64 0),(.int .u64 0),(.int .u64 0),(.int .u64 0),(.int .u64 0),(.int .u64 0),(.int .u64 0),(.int .u64 0),(.int .u64 0),(.int .u64 0),(.int .u64 0),(.int .u64 0),(.int .u64 0)]))])
 (.seq (.reg [0,1,2,6,7] [(i 7 (.all [(.int .u64 0),(.int .u64 0),(.int .u64 0),(.int .u64 0),(.int .u64 0),(.int .u64 0),(.int .u64 0),(.int .u64 0),(.int .u64 0),(.int .u64 0),(.int .u64 0),(.int .u64 0),(.int .u64 0),(.int .u64 0),(.int .u64 0),(.int .u64 0)]))])
 (.seq (.seq (.reg [0,2,6,7,17] [(m 10 1),(bc 11 .lss 10 0),(m 12 11),(wm 13 12 false 1),(wm 14 12 false 0),(w 15 12 false (.lens false (.t 14))),(w 16 12 false (.bin .geq .other (.t 13) (.t 15))),(i 17 (.pick (.t 12) (.c (.bool true)) (.t 16)))])
 (.cond (.t 17)
 (.seq (.reg [6] [(i 18 (.ld (some 16) (.t 7))),(k (.st 16 (.t 6) (.t 18)))])
 .ret)
 .skip))
 (.seq (.seq (.reg [2,6,7,19,20,21] [(m 19 0),(i 20 (.lens false (.t 19))),(vi 21 0)])
 (.block 0 (.loop Rb)))
 (.seq (.reg [6] [(i 33 (.ld (some 16) (.t 7))),(k (.st 16 (.t 6) (.t 33)))])
 .ret)))))⟩
def Ky:FnC:=⟨13,[(.t 4)],(.seq (.reg [1,2,3] [(i 3 (.box (.t 0))),(i 4 (.mov (.c (.bool false))))])
 (.seq (.drw [4] 0 [(y 5 6 3),(z 6 5),(z 7 1),(z 8 2),(q 9 7 7 8),(y 10 6 9),(z 11 10),(bt 12 .lss 6 11),(m 4 12)])
 .ret))⟩
def Dj:C:=(.seq (.seq (.drw [0,1,2,3,8,9,34] 0 [(m 18 9),(m 19 1),(bt 20 .gtr 18 19),(m 21 20),(wm 22 21 true 3),(wm 23 21 true 0),(wm 24 21 true 9),(w 25 21 true (.ixs 1 (.t 23) (.t 24))),(w 26 21 true (.ld none (.t 25))),(wm 27 21 true 0),(wm 28 21 true 9),(w 29 21 true (.bin .sub .other (.t 28) (.c (.int .i64 1)))),(w 30 21 true (.ixs 1 (.t 27) (.t 29))),(w 31 21 true (.ld none (.t 30))),(w 32 21 true (.call (.t 22) [(.t 26),(.t 31)])),(w 33 21 true (.bin .lss .other (.t 32) (.c (.int .i64 0)))),(pk 34 21 33 false)])
 (.cond (.t 34)
 .skip
 (.exit 2)))
 (.seq (.block 3 (.drw [0,1,2,3,8,9] 0 [(m 37 0),(m 38 9),(m 39 0),(m 40 9),(bc 41 .sub 40 1),(m 42 0),(m 43 9),(bc 44 .sub 43 1),(q 45 1 42 44),(z 46 45),(m 47 0),(m 48 9),(q 49 1 47 48),(z 50 49),(q 51 1 37 38),(k (.st 1 (.t 51) (.t 46))),(q 52 1 39 41),(k (.st 1 (.t 52) (.t 50)))]))
 (.reg [0,1,2,3,8,9] [(m 35 9),(bc 36 .sub 35 1),(m 9 36)])))
def Di:C:=(.seq (.seq (.reg [0,1,2,3,8,14] [(m 12 8),(m 13 2),(bt 14 .lss 12 13)])
 (.cond (.t 14)
 .skip
 (.exit 0)))
 (.seq (.block 1 (.seq (.reg [0,1,2,3,8,9] [(m 17 8),(m 9 17)])
 (.block 2 (.loop Dj))))
 (.reg [0,1,2,3,8] [(m 15 8),(bc 16 .add 15 1),(m 8 16)])))
def Cd:FnC:=⟨53,[],(.seq (.reg [0,1,2,3,8] [(m 10 1),(bc 11 .add 10 1),(m 8 11)])
 (.block 0 (.loop Di)))⟩
def Er:C:=(.seq (.seq (.reg [0,1,4,10,11,33] [(m 31 10),(m 32 11),(bt 33 .lss 31 32)])
 (.cond (.t 33)
 .skip
 (.exit 0)))
 (.block 1 (.seq (.reg [0,1,4,10,11,12] [(m 34 10),(m 35 11),(bt 36 .add 34 35),(i 37 (.cvi .u64 (.t 36))),(i 38 (.bin .shr .other (.t 37) (.c (.int .u64 1)))),(i 39 (.cvi .i64 (.t 38))),(m 12 39)])
 (.seq (.drw [0,1,4,10,11,12,50] 0 [(m 40 4),(m 41 0),(m 42 12),(q 43 1 41 42),(z 44 43),(m 45 0),(m 46 1),(q 47 1 45 46),(z 48 47),(i 49 (.call (.t 40) [(.t 44),(.t 48)])),(bc 50 .lss 49 0)])
 (.cond (.t 50)
 (.reg [0,1,4,10,11] [(m 51 12),(bc 52 .add 51 1),(m 10 52)])
 (.reg [0,1,4,10,11] [(m 53 12),(m 11 53)]))))))
def Ep:C:=(.seq (.seq (.reg [0,10,13,58] [(m 55 13),(m 56 10),(bc 57 .sub 56 1),(bt 58 .lss 55 57)])
 (.cond (.t 58)
 .skip
 (.exit 2)))
 (.seq (.block 3 (.drw [0,10,13] 0 [(m 61 0),(m 62 13),(m 63 0),(m 64 13),(bc 65 .add 64 1),(m 66 0),(m 67 13),(bc 68 .add 67 1),(q 69 1 66 68),(z 70 69),(m 71 0),(m 72 13),(q 73 1 71 72),(z 74 73),(q 75 1 61 62),(k (.st 1 (.t 75) (.t 70))),(q 76 1 63 65),(k (.st 1 (.t 76) (.t 74)))]))
 (.reg [0,10,13] [(m 59 13),(bc 60 .add 59 1),(m 13 60)])))
def Eo:C:=(.seq (.seq (.reg [0,2,4,14,15,85] [(m 83 14),(m 84 15),(bt 85 .lss 83 84)])
 (.cond (.t 85)
 .skip
 (.exit 4)))
 (.block 5 (.seq (.reg [0,2,4,14,15,16] [(m 86 14),(m 87 15),(bt 88 .add 86 87),(i 89 (.cvi .u64 (.t 88))),(i 90 (.bin .shr .other (.t 89) (.c (.int .u64 1)))),(i 91 (.cvi .i64 (.t 90))),(m 16 91)])
 (.seq (.drw [0,2,4,14,15,16,103] 0 [(m 92 4),(m 93 0),(m 94 2),(q 95 1 93 94),(z 96 95),(m 97 0),(m 98 16),(q 99 1 97 98),(z 100 99),(i 101 (.call (.t 92) [(.t 96),(.t 100)])),(bc 102 .lss 101 0),(i 103 (.un .not (.t 102)))])
 (.cond (.t 103)
 (.reg [0,2,4,14,15] [(m 104 16),(bc 105 .add 104 1),(m 14 105)])
 (.reg [0,2,4,14,15] [(m 106 16),(m 15 106)]))))))
def En:C:=(.seq (.seq (.reg [0,14,17,110] [(m 108 17),(m 109 14),(bt 110 .gtr 108 109)])
 (.cond (.t 110)
 .skip
 (.exit 6)))
 (.seq (.block 7 (.drw [0,14,17] 0 [(m 113 0),(m 114 17),(m 115 0),(m 116 17),(bc 117 .sub 116 1),(m 118 0),(m 119 17),(bc 120 .sub 119 1),(q 121 1 118 120),(z 122 121),(m 123 0),(m 124 17),(q 125 1 123 124),(z 126 125),(q 127 1 113 114),(k (.st 1 (.t 127) (.t 122))),(q 128 1 115 117),(k (.st 1 (.t 128) (.t 126)))]))
 (.reg [0,14,17] [(m 111 17),(bc 112 .sub 111 1),(m 17 112)])))
def Cl:C:=(.seq (.seq (.reg [0,1,2,3,4,18,19,20,21,22,151] [(m 149 20),(m 150 21),(bt 151 .lss 149 150)])
 (.cond (.t 151)
 .skip
 (.exit 8)))
 (.block 9 (.seq (.reg [0,1,2,3,4,18,19,20,21,22,23] [(m 152 20),(m 153 21),(bt 154 .add 152 153),(i 155 (.cvi .u64 (.t 154))),(i 156 (.bin .shr .other (.t 155) (.c (.int .u64 1)))),(i 157 (.cvi .i64 (.t 156))),(m 23 157)])
 (.seq (.drw [0,1,2,3,4,18,19,20,21,22,23,171] 0 [(m 158 4),(m 159 0),(m 160 22),(m 161 23),(bt 162 .sub 160 161),(q 163 1 159 162),(z 164 163),(m 165 0),(m 166 23),(q 167 1 165 166),(z 168 167),(i 169 (.call (.t 158) [(.t 164),(.t 168)])),(bc 170 .lss 169 0),(i 171 (.un .not (.t 170)))])
 (.cond (.t 171)
 (.reg [0,1,2,3,4,18,19,20,21,22] [(m 172 23),(bc 173 .add 172 1),(m 20 173)])
 (.reg [0,1,2,3,4,18,19,20,21,22] [(m 174 23),(m 21 174)]))))))
def Dc:FnC:=⟨220,[],(.seq (.seq (.reg [0,1,2,3,4,28] [(m 25 2),(m 26 1),(bt 27 .sub 25 26),(bc 28 .eql 27 1)])
 (.cond (.t 28)
 (.seq (.reg [0,1,3,4,10] [(m 29 2),(m 10 29)])
 (.seq (.reg [0,1,4,10,11] [(m 30 3),(m 11 30)])
 (.seq (.block 0 (.loop Er))
 (.seq (.seq (.reg [0,10,13] [(m 54 1),(m 13 54)])
 (.block 2 (.loop Ep)))
 .ret))))
 .skip))
 (.seq (.seq (.reg [0,1,2,3,4,80] [(m 77 3),(m 78 2),(bt 79 .sub 77 78),(bc 80 .eql 79 1)])
 (.cond (.t 80)
 (.seq (.reg [0,2,4,14] [(m 81 1),(m 14 81)])
 (.seq (.reg [0,2,4,14,15] [(m 82 2),(m 15 82)])
 (.seq (.block 4 (.loop Eo))
 (.seq (.seq (.reg [0,14,17] [(m 107 2),(m 17 107)])
 (.block 6 (.loop En)))
 .ret))))
 .skip))
 (.seq (.reg [0,1,2,3,4,18] [(m 129 1),(m 130 3),(bt 131 .add 129 130),(i 132 (.cvi .u64 (.t 131))),(i 133 (.bin .shr .other (.t 132) (.c (.int .u64 1)))),(i 134 (.cvi .i64 (.t 133))),(m 18 134)])
 (.seq (.reg [0,1,2,3,4,18,19] [(m 135 18),(m 136 2),(bt 137 .add 135 136),(m 19 137)])
 (.seq (.reg [0,1,2,3,4,18,19] [(vi 20 0),(vi 21 0)])
 (.seq (.seq (.reg [0,1,2,3,4,18,19,140] [(m 138 2),(m 139 18),(bt 140 .gtr 138 139)])
 (.cond (.t 140)
 (.seq (.reg [0,1,2,3,4,18,19,20] [(m 141 19),(m 142 3),(bt 143 .sub 141 142),(m 20 143)])
 (.reg [0,1,2,3,4,18,19,20,21] [(m 144 18),(m 21 144)]))
 (.seq (.reg [0,1,2,3,4,18,19,20] [(m 145 1),(m 20 145)])
 (.reg [0,1,2,3,4,18,19,20,21] [(m 146 2),(m 21 146)]))))
 (.seq (.reg [0,1,2,3,4,18,19,20,21,22] [(m 147 19),(bc 148 .sub 147 1),(m 22 148)])
 (.seq (.block 8 (.loop Cl))
 (.seq (.reg [0,1,2,3,4,18,20,24] [(m 175 19),(m 176 20),(bt 177 .sub 175 176),(m 24 177)])
 (.seq (.seq (.reg [0,1,2,3,4,18,20,24,185] [(m 178 20),(m 179 2),(bt 180 .lss 178 179),(m 181 180),(wm 182 181 true 2),(wm 183 181 true 24),(w 184 181 true (.bin .lss .other (.t 182) (.t 183))),(pk 185 181 184 false)])
 (.cond (.t 185)
 (.reg [0,1,3,4,18,20,24] [(m 186 0),(m 187 20),(m 188 2),(m 189 24),(m 190 4),(i 191 (.call (.f Bg) [(.t 186),(.t 187),(.t 188),(.t 189),(.t 190)]))])
 .skip))
 (.seq (.seq (.reg [0,1,3,4,18,20,24,199] [(m 192 1),(m 193 20),(bt 194 .lss 192 193),(m 195 194),(wm 196 195 true 20),(wm 197 195 true 18),(w 198 195 true (.bin .lss .other (.t 196) (.t 197))),(pk 199 195 198 false)])
 (.cond (.t 199)
 (.reg [0,3,4,18,24] [(m 200 0),(m 201 1),(m 202 20),(m 203 18),(m 204 4),(i 205 (.call (.f Ai) [(.t 200),(.t 201),(.t 202),(.t 203),(.t 204)]))])
 .skip))
 (.seq (.reg [0,3,4,18,24,213] [(m 206 18),(m 207 24),(bt 208 .lss 206 207),(m 209 208),(wm 210 209 true 24),(wm 211 209 true 3),(w 212 209 true (.bin .lss .other (.t 210) (.t 211))),(pk 213 209 212 false)])
 (.cond (.t 213)
 (.reg [] [(m 214 0),(m 215 18),(m 216 24),(m 217 3),(m 218 4),(i 219 (.call (.f Ai) [(.t 214),(.t 215),(.t 216),(.t 217),(.t 218)]))])
 .skip)))))))))))))⟩
def Yg:FnC:=⟨17,[(.t 4),(.t 5)],(.seq (.reg [0,1] [(i 4 (.mov (.c (.int .u64 0)))),(i 5 (.mov (.c (.bool false))))])
 (.seq (.reg [6,7] [(m 9 0),(m 10 1),(i 11 (.call (.f Eb) [(.t 9),(.t 10),(.c (.int .u64 0))])),(m 8 11),(i 12 (.ext (.t 8) 0)),(i 13 (.ext (.t 8) 1)),(m 6 12),(m 7 13)])
 (.seq (.seq (.reg [6,15] [(m 14 7),(i 15 (.bin .gtr .other (.t 14) (.c (.int .u64 0))))])
 (.cond (.t 15)
 (.seq (.reg [4,5] [(i 4 (.mov (.c (.int .u64 0)))),(i 5 (.mov (.c (.bool false))))])
 .ret)
 .skip))
 (.seq (.reg [4,5] [(m 16 6),(m 4 16),(i 5 (.mov (.c (.bool true))))])
 .ret))))⟩
def Tb:FnC:=⟨16,[(.t 4)],(.seq (.reg [0,1] [(i 4 (.mov (.c (.int .u64 0))))])
 (.seq (.reg [5,6] [(m 8 0),(m 9 1),(i 10 (.call (.f Pi) [(.t 8),(.t 9)])),(m 7 10),(i 11 (.ext (.t 7) 0)),(i 12 (.ext (.t 7) 1)),(m 5 11),(m 6 12)])
 (.seq (.seq (.reg [5,14] [(m 13 6),(i 14 (.un .not (.t 13)))])
 (.cond (.t 14)
 (.seq (.reg [4] [(i 4 (.mov (.c (.int .u64 18446744073709551615))))])
 .ret)
 .skip))
 (.seq (.reg [4] [(m 15 5),(m 4 15)])
 .ret))))⟩
def Ny:FnC:=⟨21,[(.t 4)],(.seq (.reg [1,2] [(i 2 (.box (.t 0))),(i 4 (.mov (.c (.int .u64 0))))])
 (.seq (.drw [5] 1 [(m 8 1),(y 9 4 2),(z 10 9),(i 11 (.cvi .u64 (.t 10))),(i 12 (.bsl 1 [(.int .u64 0)] 1 [(0,(1,(.t 11)))])),⟨(some 13),none,(.call (.f Jg) [(.t 8),(.t 12)]),true,1,false⟩,⟨(some 14),none,(.fld 2 (.t 2)),false,1,false⟩,⟨(some 15),none,(.ld none (.t 14)),true,1,false⟩,⟨(some 16),none,(.cvi .u64 (.t 15)),false,1,false⟩,⟨(some 17),none,(.call (.f Nd) [(.t 13),(.t 16)]),false,1,false⟩,⟨(some 7),none,(.mov (.t 17)),false,1,false⟩,⟨(some 18),none,(.ext (.t 7) 0),false,1,false⟩,⟨(some 19),none,(.ext (.t 7) 1),false,1,false⟩,⟨(some 5),none,(.mov (.t 18)),false,1,false⟩,⟨(some 6),none,(.mov (.t 19)),false,1,false⟩])
 (.seq (.reg [4] [(m 20 5),(m 4 20)])
 .ret)))⟩
def J7:FnC:=⟨15,[(.t 6)],(.seq (.reg [0,1,2] [(i 6 (.mov (.c (.bool false))))])
 (.seq (.reg [6] [(m 7 0),(m 8 1),(bt 9 .geq 7 8),(m 10 9),(wm 11 10 true 0),(wm 12 10 true 2),(w 13 10 true (.bin .leq .other (.t 11) (.t 12))),(pk 14 10 13 false),(m 6 14)])
 .ret))⟩
def Kc:FnC:=⟨6,[(.t 2)],(.seq (.reg [0] [(i 2 (.mov (.c (.bool false))))])
 (.seq (.reg [2] [(m 3 0),(m 4 0),(bt 5 .neq 3 4),(m 2 5)])
 .ret))⟩
def Gc:FnC:=⟨48,[(.t 6)],(.seq (.reg [0,1,2] [(i 6 (.mov (.c (.bool false))))])
 (.seq (.drw [0,7,8] 2 [(m 9 0),(u 10 9),(y 11 1 10),⟨(some 12),none,(.ld none (.t 11)),true,0,false⟩,(m 13 1),(q 14 2 12 13),⟨(some 15),none,(.ld (some 2) (.t 14)),true,0,false⟩,(m 16 0),(u 17 16),(y 18 1 17),⟨(some 19),none,(.ld none (.t 18)),true,0,false⟩,(m 20 2),(q 21 2 19 20),⟨(some 22),none,(.ld (some 2) (.t 21)),true,0,false⟩,(i 7 (.all [(.int .i64 0),(.int .u64 0)])),⟨(some 8),none,(.all [(.int .i64 0),(.int .u64 0)]),false,1,false⟩,⟨none,none,(.st 2 (.t 7) (.t 15)),true,2,false⟩,⟨none,none,(.st 2 (.t 8) (.t 22)),false,2,false⟩])
 (.seq (.block 0 (.seq (.drw [0,7,8,23] 0 [(m 24 0),(u 25 24),(y 26 0 25),(z 27 26),(y 28 0 7),(z 29 28),(y 30 0 8),(z 31 30),(i 32 (.call (.t 27) [(.t 29),(.t 31)])),(m 23 32)])
 (.cond (.t 23)
 (.seq (.reg [6] [(i 6 (.mov (.c (.bool true))))])
 .ret)
 (.seq (.drw [7,8,33] 0 [(m 34 0),(u 35 34),(y 36 0 35),(z 37 36),(y 38 0 8),(z 39 38),(y 40 0 7),(z 41 40),(i 42 (.call (.t 37) [(.t 39),(.t 41)])),(m 33 42)])
 (.cond (.t 33)
 (.seq (.reg [6] [(i 6 (.mov (.c (.bool false))))])
 .ret)
 .skip)))))
 (.seq (.reg [6] [(y 43 1 7),(z 44 43),(y 45 1 8),(z 46 45),(bt 47 .lss 44 46),(m 6 47)])
 .ret))))⟩
def G4:FnC:=⟨32,[],(.drw [] 0 [(m 6 0),(u 7 6),(y 8 1 7),(z 9 8),(m 10 1),(m 11 0),(u 12 11),(y 13 1 12),(z 14 13),(m 15 2),(m 16 0),(u 17 16),(y 18 1 17),(z 19 18),(m 20 2),(q 21 2 19 20),(i 22 (.ld (some 2) (.t 21))),(m 23 0),(u 24 23),(y 25 1 24),(z 26 25),(m 27 1),(q 28 2 26 27),(i 29 (.ld (some 2) (.t 28))),(q 30 2 9 10),(k (.st 2 (.t 30) (.t 22))),(q 31 2 14 15),(k (.st 2 (.t 31) (.t 29)))])⟩
def C6:FnC:=⟨49,[(.t 2),(.t 3)],(.seq (.reg [0] [(i 2 (.mov (.c (.pointer none)))),(i 3 (.mov (.c (.bool false))))])
 (.seq (.reg [0,4,5] [(m 7 0),(i 8 (.call (.f Az) [(.t 7),(.c (.int .i64 0))])),(m 6 8),(i 9 (.ext (.t 6) 0)),(i 10 (.ext (.t 6) 1)),(m 4 9),(m 5 10)])
 (.seq (.seq (.reg [0,4,5,11] [(m 11 5)])
 (.cond (.t 11)
 (.seq (.drw [0,4,5] 0 [(m 12 0),(u 13 12),(y 14 0 13),(z 15 14),(m 16 0),(u 17 16),(y 18 1 17),(z 19 18),(m 20 0),(u 21 20),(y 22 1 21),(z 23 22),(bc 24 .add 23 1),(i 25 (.sls 1 (.t 15) (some (.t 19)) (some (.t 24)) none)),(k (.clr [(.pointer none)] (.t 25)))])
 (.seq (.drw [0,4,5] 0 [(m 26 0),(m 27 0),(u 28 27),(y 29 1 28),(z 30 29),(bc 31 .add 30 1),(m 32 0),(u 33 32),(y 34 0 33),(z 35 34),(i 36 (.lens false (.t 35))),(bt 37 .rem 31 36),(u 38 26),(y 39 1 38),(k (.st 1 (.t 39) (.t 37)))])
 (.reg [4,5] [(m 40 0),(u 41 40),(y 42 2 41),(z 43 42),(bc 44 .sub 43 1),(u 45 40),(y 46 2 45),(k (.st 1 (.t 46) (.t 44)))])))
 .skip))
 (.seq (.reg [2,3] [(m 47 4),(m 48 5),(m 2 47),(m 3 48)])
 .ret))))⟩
def C7:FnC:=⟨9,[(.t 2)],(.seq (.reg [0] [(vi 2 0)])
 (.seq (.seq (.reg [0,4] [(m 3 0),(i 4 (.bin .eql .ptr (.t 3) (.c (.pointer none))))])
 (.cond (.t 4)
 (.seq (.reg [2] [(vi 2 0)])
 .ret)
 .skip))
 (.seq (.reg [2] [(m 5 0),(u 6 5),(y 7 2 6),(z 8 7),(m 2 8)])
 .ret)))⟩
def G8:C:=(.seq (.reg [3,8,9,10,11] [(bt 11 .lss 10 9)])
 (.seq (.cond (.t 11)
 .skip
 (.exit 0))
 (.seq (.block 1 (.seq (.reg [3,5,8,9,10] [(q 12 1 8 10),(z 13 12),(m 5 13)])
 (.reg [3,8,9,10] [(m 14 3),(m 15 5),(i 16 (.call (.f Av) [(.t 14),(.t 15)]))])))
 (.reg [3,8,9,10] [(bc 17 .add 10 1),(m 10 17)]))))
def Fc:FnC:=⟨19,[(.t 2)],(.seq (.reg [0] [(i 2 (.mov (.c (.pointer none))))])
 (.seq (.reg [0,3] [(i 6 (.bld [(.slice none 0 0),(.int .i64 0),(.int .i64 0)] [])),(i 7 (.box (.t 6))),(m 3 7)])
 (.seq (.seq (.reg [3,8,9,10] [(m 8 0),(i 9 (.lens false (.t 8))),(vi 10 0)])
 (.block 0 (.loop G8)))
 (.seq (.reg [2] [(m 18 3),(m 2 18)])
 .ret))))⟩
def Cv:FnC:=⟨46,[],(.seq (.seq (.reg [0,1,5] [(m 4 0),(i 5 (.bin .eql .ptr (.t 4) (.c (.pointer none))))])
 (.cond (.t 5)
 .ret
 .skip))
 (.seq (.seq (.drw [0,1,15] 0 [(m 6 0),(u 7 6),(y 8 2 7),(z 9 8),(m 10 0),(u 11 10),(y 12 0 11),(z 13 12),(i 14 (.lens false (.t 13))),(bt 15 .eql 9 14)])
 (.cond (.t 15)
 (.reg [0,1] [(m 16 0),(i 17 (.call (.f Bh) [(.t 16)]))])
 .skip))
 (.seq (.drw [0] 0 [(m 18 0),(u 19 18),(y 20 0 19),(z 21 20),(m 22 0),(u 23 22),(y 24 1 23),(z 25 24),(m 26 0),(u 27 26),(y 28 2 27),(z 29 28),(bt 30 .add 25 29),(m 31 0),(u 32 31),(y 33 0 32),(z 34 33),(i 35 (.lens false (.t 34))),(bt 36 .rem 30 35),(m 37 1),(q 38 1 21 36),(k (.st 1 (.t 38) (.t 37)))])
 (.reg [] [(m 39 0),(u 40 39),(y 41 2 40),(z 42 41),(bc 43 .add 42 1),(u 44 39),(y 45 2 44),(k (.st 1 (.t 45) (.t 43)))]))))⟩
def Ir:FnC:=⟨35,[(.t 2),(.t 3)],(.seq (.reg [0] [(vi 2 0),(i 3 (.mov (.c (.bool false))))])
 (.seq (.reg [0,4,5] [(m 8 0),(i 9 (.call (.f C0) [(.t 8)])),(m 7 9),(i 10 (.ext (.t 7) 0)),(i 11 (.ext (.t 7) 1)),(m 4 10),(m 5 11)])
 (.seq (.seq (.reg [0,4,5,12] [(m 12 5)])
 (.cond (.t 12)
 (.seq (.reg [0,4,5,6] [(m 13 0),(u 14 13),(y 15 1 14),(z 16 15),(i 17 (.lens false (.t 16))),(bc 18 .sub 17 1),(m 6 18)])
 (.seq (.reg [0,4,5,6] [(m 19 0),(m 20 6),(i 21 (.call (.f Bv) [(.t 19),(.c (.int .i64 0)),(.t 20)]))])
 (.seq (.reg [0,4,5] [(m 22 0),(m 23 0),(u 24 23),(y 25 1 24),(z 26 25),(m 27 6),(i 28 (.sls 2 (.t 26) none (some (.t 27)) none)),(u 29 22),(y 30 1 29),(k (.st 1 (.t 30) (.t 28)))])
 (.reg [4,5] [(m 31 0),(i 32 (.call (.f Cz) [(.t 31),(.c (.int .i64 0))]))]))))
 .skip))
 (.seq (.reg [2,3] [(m 33 4),(m 34 5),(m 2 33),(m 3 34)])
 .ret))))⟩
def Dd:FnC:=⟨34,[(.t 4),(.t 5)],(.seq (.reg [0,1] [(i 4 (.mov (.c (.pointer none)))),(i 5 (.mov (.c (.bool false))))])
 (.seq (.seq (.reg [0,1,14] [(m 7 1),(bc 8 .lss 7 0),(m 9 8),(wm 10 9 false 1),(wm 11 9 false 0),(w 12 9 false (.call (.f Ar) [(.t 11)])),(w 13 9 false (.bin .geq .other (.t 10) (.t 12))),(i 14 (.pick (.t 9) (.c (.bool true)) (.t 13)))])
 (.cond (.t 14)
 (.seq (.reg [6] [(i 6 (.mov (.c (.pointer none))))])
 (.seq (.reg [4,5] [(m 15 6),(m 4 15),(i 5 (.mov (.c (.bool false))))])
 .ret))
 .skip))
 (.seq (.drw [4,5] 0 [(m 16 0),(u 17 16),(y 18 0 17),(z 19 18),(m 20 0),(u 21 20),(y 22 1 21),(z 23 22),(m 24 1),(bt 25 .add 23 24),(m 26 0),(u 27 26),(y 28 0 27),(z 29 28),(i 30 (.lens false (.t 29))),(bt 31 .rem 25 30),(q 32 1 19 31),(z 33 32),(m 4 33),(i 5 (.mov (.c (.bool true))))])
 .ret)))⟩
def Ly:FnC:=⟨13,[(.t 4)],(.seq (.reg [1,2,3] [(i 3 (.box (.t 0))),(i 4 (.mov (.c (.bool false))))])
 (.seq (.drw [4] 0 [(y 5 6 3),(z 6 5),(z 7 1),(z 8 2),(q 9 7 7 8),(y 10 6 9),(z 11 10),(bt 12 .gtr 6 11),(m 4 12)])
 .ret))⟩
def La:FnC:=⟨17,[(.v (some 16) 4)],(.seq (.reg [1,2,4] [(i 2 (.box (.t 0))),(i 4 (.all [(.int .u64 0),(.int .u64 0),(.int .u64 0),(.int .u64 0),(.int .u64 0),(.int .u64 0),(.int .u64 0),(.int .u64 0),(.int .u64 0),(.int .u64 0),(.int .u64 0),(.int .u64 0),(.int .u64 0),(.int .u64 0),(.int .u64 0),(.int .u64 0)]))])
 (.seq (.seq (.reg [1,2,4,6] [(m 5 1),(i 6 (.call (.f Kp) [(.t 5)]))])
 (.cond (.t 6)
 (.drw [2,4] 0 [(m 7 1),(i 8 (.bin .shr .other (.t 7) (.c (.int .u64 6)))),(i 9 (.ixa 16 1 (.t 2) (.t 8))),(z 10 9),(m 11 1),(bc 12 .and 11 63),(i 13 (.bin .shl .other (.c (.int .u64 1)) (.t 12))),(bt 14 .or 10 13),(i 15 (.ixa 16 1 (.t 2) (.t 8))),(k (.st 1 (.t 15) (.t 14)))])
 .skip))
 (.seq (.reg [4] [(i 16 (.ld (some 16) (.t 2))),(k (.st 16 (.t 4) (.t 16)))])
 .ret)))⟩
def Fj:C:=(.seq (.seq (.reg [0,2,4,10,11,20] [(m 18 10),(m 19 11),(bt 20 .neq 18 19)])
 (.cond (.t 20)
 .skip
 (.exit 0)))
 (.block 1 (.seq (.reg [0,2,4,10,11,23] [(m 21 10),(m 22 11),(bt 23 .gtr 21 22)])
 (.cond (.t 23)
 (.seq (.reg [0,2,4,10,11] [(m 24 0),(m 25 2),(m 26 10),(bt 27 .sub 25 26),(m 28 2),(m 29 11),(m 30 4),(i 31 (.call (.f Ay) [(.t 24),(.t 27),(.t 28),(.t 29),(.t 30)]))])
 (.reg [0,2,4,10,11] [(m 32 10),(m 33 11),(bt 34 .sub 32 33),(m 10 34)]))
 (.seq (.reg [0,2,4,10,11] [(m 35 0),(m 36 2),(m 37 10),(bt 38 .sub 36 37),(m 39 2),(m 40 11),(bt 41 .add 39 40),(m 42 10),(bt 43 .sub 41 42),(m 44 10),(m 45 4),(i 46 (.call (.f Ay) [(.t 35),(.t 38),(.t 43),(.t 44),(.t 45)]))])
 (.reg [0,2,4,10,11] [(m 47 11),(m 48 10),(bt 49 .sub 47 48),(m 11 49)]))))))
def Dx:FnC:=⟨58,[],(.seq (.reg [0,2,3,4,10] [(m 12 2),(m 13 1),(bt 14 .sub 12 13),(m 10 14)])
 (.seq (.reg [0,2,4,10,11] [(m 15 3),(m 16 2),(bt 17 .sub 15 16),(m 11 17)])
 (.seq (.block 0 (.loop Fj))
 (.reg [] [(m 50 0),(m 51 2),(m 52 10),(bt 53 .sub 51 52),(m 54 2),(m 55 10),(m 56 4),(i 57 (.call (.f Ay) [(.t 50),(.t 53),(.t 54),(.t 55),(.t 56)]))]))))⟩
def Yf:FnC:=⟨17,[(.t 4),(.t 5)],(.seq (.reg [0,1] [(i 4 (.mov (.c (.int .u64 0)))),(i 5 (.mov (.c (.bool false))))])
 (.seq (.reg [6,7] [(m 9 0),(m 10 1),(i 11 (.call (.f Ea) [(.t 9),(.t 10)])),(m 8 11),(i 12 (.ext (.t 8) 0)),(i 13 (.ext (.t 8) 1)),(m 6 12),(m 7 13)])
 (.seq (.seq (.reg [7,15] [(m 14 6),(i 15 (.bin .gtr .other (.t 14) (.c (.int .u64 0))))])
 (.cond (.t 15)
 (.seq (.reg [4,5] [(i 4 (.mov (.c (.int .u64 0)))),(i 5 (.mov (.c (.bool false))))])
 .ret)
 .skip))
 (.seq (.reg [4,5] [(m 16 7),(m 4 16),(i 5 (.mov (.c (.bool true))))])
 .ret))))⟩
def Vj:FnC:=⟨19,[(.t 4),(.t 5)],(.seq (.reg [0,1] [(i 4 (.mov (.c (.int .u64 0)))),(i 5 (.mov (.c (.bool false))))])
 (.seq (.seq (.reg [0,1,8] [(m 7 1),(i 8 (.bin .eql .other (.t 7) (.c (.int .u64 0))))])
 (.cond (.t 8)
 (.seq (.reg [4,5] [(i 4 (.mov (.c (.int .u64 0)))),(i 5 (.mov (.c (.bool false))))])
 .ret)
 .skip))
 (.seq (.reg [0,1,6] [(m 9 0),(m 10 1),(bt 11 .quo 9 10),(m 6 11)])
 (.seq (.seq (.reg [6,15] [(m 12 0),(m 13 1),(bt 14 .rem 12 13),(i 15 (.bin .gtr .other (.t 14) (.c (.int .u64 0))))])
 (.cond (.t 15)
 (.reg [6] [(m 16 6),(i 17 (.bin .add .other (.t 16) (.c (.int .u64 1)))),(m 6 17)])
 .skip))
 (.seq (.reg [4,5] [(m 18 6),(m 4 18),(i 5 (.mov (.c (.bool true))))])
 .ret)))))⟩
def Cu:FnC:=⟨45,[],(.seq (.reg [0,2] [(m 4 0),(u 5 4),(y 6 0 5),(z 7 6),(i 8 (.lens false (.t 7))),(i 9 (.bin .mul .other (.c (.int .i64 2)) (.t 8))),(i 10 (.max (.c (.int .i64 8)) [(.t 9)])),(m 2 10)])
 (.seq (.reg [0,2,3] [(m 11 2),(i 12 (.msl [(.pointer none)] 8 (.c (.int .i64 0)) (.t 11))),(m 3 12)])
 (.seq (.drw [0,2,3] 0 [(m 13 3),(m 14 0),(u 15 14),(y 16 0 15),(z 17 16),(m 18 0),(u 19 18),(y 20 1 19),(z 21 20),(i 22 (.sls 1 (.t 17) (some (.t 21)) none none)),(i 23 (.app 1 8 (.t 13) (.t 22))),(m 3 23)])
 (.seq (.drw [0,2,3] 0 [(m 24 3),(m 25 0),(u 26 25),(y 27 0 26),(z 28 27),(m 29 0),(u 30 29),(y 31 1 30),(z 32 31),(i 33 (.sls 1 (.t 28) none (some (.t 32)) none)),(i 34 (.app 1 8 (.t 24) (.t 33))),(m 3 34)])
 (.reg [] [(m 35 0),(m 36 0),(m 37 3),(m 38 2),(m 39 2),(i 40 (.sls 1 (.t 37) none (some (.t 38)) (some (.t 39)))),(u 41 35),(y 42 0 41),(k (.st 1 (.t 42) (.t 40))),(u 43 36),(y 44 1 43),(k (.st 1 (.t 44) (.c (.int .i64 0))))])))))⟩
def G7:FnC:=⟨16,[(.t 2),(.t 3)],(.seq (.reg [0] [(vi 2 0),(i 3 (.mov (.c (.bool false))))])
 (.seq (.reg [0,4] [(vi 4 0)])
 (.seq (.seq (.reg [0,4,7] [(m 5 0),(i 6 (.call (.f Dg) [(.t 5)])),(bc 7 .eql 6 0)])
 (.cond (.t 7)
 (.seq (.reg [2,3] [(m 8 4),(m 2 8),(i 3 (.mov (.c (.bool false))))])
 .ret)
 .skip))
 (.seq (.reg [2,3] [(m 9 0),(u 10 9),(y 11 1 10),(z 12 11),(i 13 (.ixs 2 (.t 12) (.c (.int .i64 0)))),(y 14 0 13),(z 15 14),(m 2 15),(i 3 (.mov (.c (.bool true))))])
 .ret))))⟩
def Jk:C:=(.seq (.seq (.reg [0,1,4,5,23] [(m 10 5),(m 11 1),(i 12 (.bin .mul .other (.c (.int .i64 2)) (.t 11))),(bc 13 .add 12 2),(bt 14 .leq 10 13),(m 15 14),(wm 16 15 true 5),(wm 17 15 true 0),(w 18 15 true (.nil (.t 17))),(w 19 15 true (.fld 1 (.t 18))),(w 20 15 true (.ld none (.t 19))),(w 21 15 true (.lens false (.t 20))),(w 22 15 true (.bin .lss .other (.t 16) (.t 21))),(pk 23 15 22 false)])
 (.cond (.t 23)
 .skip
 (.exit 2)))
 (.seq (.block 3 (.seq (.reg [0,1,4,5,29] [(m 26 0),(m 27 5),(m 28 4),(i 29 (.call (.f B3) [(.t 26),(.t 27),(.t 28)]))])
 (.cond (.t 29)
 (.reg [0,1,4,5] [(m 30 5),(m 4 30)])
 .skip)))
 (.reg [0,1,4,5] [(m 24 5),(bc 25 .add 24 1),(m 5 25)])))
def Jj:C:=(.block 1 (.seq (.reg [0,1,4] [(m 6 1),(m 4 6)])
 (.seq (.seq (.reg [0,1,4,5] [(m 7 1),(i 8 (.bin .mul .other (.c (.int .i64 2)) (.t 7))),(bc 9 .add 8 1),(m 5 9)])
 (.block 2 (.loop Jk)))
 (.seq (.seq (.reg [0,1,4,33] [(m 31 4),(m 32 1),(bt 33 .eql 31 32)])
 (.cond (.t 33)
 (.exit 0)
 .skip))
 (.seq (.reg [0,4] [(m 34 0),(m 35 1),(m 36 4),(i 37 (.call (.f Bv) [(.t 34),(.t 35),(.t 36)]))])
 (.reg [0,1] [(m 38 4),(m 1 38)]))))))
def G5:FnC:=⟨39,[],(.seq .skip
 (.block 0 (.loop Jj)))⟩
def Eh:C:=(.seq (.seq (.reg [0,1,2,3,10,13] [(m 11 10),(m 12 3),(bt 13 .lss 11 12)])
 (.cond (.t 13)
 .skip
 (.exit 0)))
 (.seq (.block 1 (.drw [0,1,2,3,10] 0 [(m 16 0),(m 17 1),(m 18 10),(bt 19 .add 17 18),(m 20 0),(m 21 2),(m 22 10),(bt 23 .add 21 22),(m 24 0),(m 25 2),(m 26 10),(bt 27 .add 25 26),(q 28 1 24 27),(z 29 28),(m 30 0),(m 31 1),(m 32 10),(bt 33 .add 31 32),(q 34 1 30 33),(z 35 34),(q 36 1 16 19),(k (.st 1 (.t 36) (.t 29))),(q 37 1 20 23),(k (.st 1 (.t 37) (.t 35)))]))
 (.reg [0,1,2,3,10] [(m 14 10),(bc 15 .add 14 1),(m 10 15)])))
def C5:FnC:=⟨38,[],(.seq (.reg [0,1,2,3,10] [(vi 10 0)])
 (.block 0 (.loop Eh)))⟩
def Ka:FnC:=⟨51,[(.t 4),(.t 5)],(.seq (.reg [0,1] [(i 4 (.mov (.c (.int .u64 0)))),(i 5 (.mov (.c (.int .u64 0))))])
 (.seq (.reg [0,1,6] [(m 14 0),(i 15 (.bin .and .other (.t 14) (.c (.int .u64 4294967295)))),(m 6 15)])
 (.seq (.reg [0,1,6,7] [(m 16 0),(i 17 (.bin .shr .other (.t 16) (.c (.int .u64 32)))),(m 7 17)])
 (.seq (.reg [0,1,6,7,8] [(m 18 1),(i 19 (.bin .and .other (.t 18) (.c (.int .u64 4294967295)))),(m 8 19)])
 (.seq (.reg [0,1,6,7,8,9] [(m 20 1),(i 21 (.bin .shr .other (.t 20) (.c (.int .u64 32)))),(m 9 21)])
 (.seq (.reg [0,1,6,7,8,9,10] [(m 22 6),(m 23 8),(bt 24 .mul 22 23),(m 10 24)])
 (.seq (.reg [0,1,6,7,9,11] [(m 25 7),(m 26 8),(bt 27 .mul 25 26),(m 28 10),(i 29 (.bin .shr .other (.t 28) (.c (.int .u64 32)))),(bt 30 .add 27 29),(m 11 30)])
 (.seq (.reg [0,1,6,7,9,11,12] [(m 31 11),(i 32 (.bin .and .other (.t 31) (.c (.int .u64 4294967295)))),(m 12 32)])
 (.seq (.reg [0,1,6,7,9,12,13] [(m 33 11),(i 34 (.bin .shr .other (.t 33) (.c (.int .u64 32)))),(m 13 34)])
 (.seq (.reg [0,1,7,9,12,13] [(m 35 12),(m 36 6),(m 37 9),(bt 38 .mul 36 37),(bt 39 .add 35 38),(m 12 39)])
 (.seq (.reg [0,1,4] [(m 40 7),(m 41 9),(bt 42 .mul 40 41),(m 43 13),(bt 44 .add 42 43),(m 45 12),(i 46 (.bin .shr .other (.t 45) (.c (.int .u64 32)))),(bt 47 .add 44 46),(m 4 47)])
 (.seq (.reg [4,5] [(m 48 0),(m 49 1),(bt 50 .mul 48 49),(m 5 50)])
 .ret))))))))))))⟩
def Is:FnC:=⟨10,[(.t 2)],(.seq (.reg [0] [(vi 2 0)])
 (.seq (.seq (.reg [0,4] [(m 3 0),(i 4 (.bin .eql .ptr (.t 3) (.c (.pointer none))))])
 (.cond (.t 4)
 (.seq (.reg [2] [(vi 2 0)])
 .ret)
 .skip))
 (.seq (.reg [2] [(m 5 0),(u 6 5),(y 7 1 6),(z 8 7),(i 9 (.lens false (.t 8))),(m 2 9)])
 .ret)))⟩
structure Aw (E:Env):Prop where
  keep:N6 E
  Pt:E Fp = .text I9
  Arp:E Ln = .text Ta
  Aa0:E E4 = .text K0
  Ayw:E I1 = .text L9
  Alk:E Jv = .text Q2
  Ze:E D9 = .text J9
  Aht:E Iy = .text O6
  Arh:E Lm = .text S6
  Aq8:E Jf = .text Sy
  All:E Ch = .text Q3
  Ahv:E Iz = .text O7
  Afm:E E3 = .text Nu
  Ari:E Gt = .text S9
  Arm:E Fo = .textK I7
  A1x:E Ld = .text O5
  Azt:E Ph = .text Yd
  At3:E Nb = .text Vf
  Ac3:E Bw = .text L7
  A3h:E Pg = .text Acm
  Aud:E Nc = .text Vh
  Ard:E Ll = .text S5
  Adi:E B7 = .text Ma
  Awf:E Kp = .text Vk
  Ak7:E Jt = .text Q0
  Al9:E Jw = .text Q4
  Aav:E Ez = .text c_scene_Critical
  Lg:E Bd = .textK Cm
  Akv:E Js = .text Qz
  Ahn:E F6 = .text O4
  Aj2:E F7 = .text O9
  Ahh:E F5 = .text O3
  Arb:E Lk = .text S0
  Arc:E Gs = .text S4
  Pm:E Bk = .text I8
  Zn:E Ec = .text Kb
  Abl:E Dq = .text Lb
  Afj:E Gr = .text Nr
  Afe:E Gp = .text Np
  Af6:E Gu = .text Nx
  Ui:E B8 = .text Mc
  U8:E C3 = .textK G9
  At8:E I5 = .text Vg
  Vu:E Ag = .textK Iq
  Ahg:E Ix = .text O2
  Ac6:E Fw = .text L8
  Ag1:E Ej = .text O1
  Ou:E Bu = .textK Dw
  Ac2:E Bf = .text L6
  Ue:E Fv = .text L5
  Ud:E Fu = .text Lz
  Akt:E Jr = .text Qx
  Asi:E Gw = .text Tc
  Az9:E Jg = .text Ye
  Agf:E Gx = .text N3
  Adm:E Fx = .text Md
  Ak9:E Ju = .text Q1
  Afi:E Gq = .text Nq
  Zb:E Cg = .text J8
  Q8:E C8 = .text J5
  Wv:E Dh = .text Iu
  U6:E Bb = .textK G6
  T9:E Ao = .textK Gd
  Qo:E B6 = .textK El
  Ro:E Cc = .textK Fd
  Ua:E Bq = .text Ge
  Aku:E H9 = .text Qy
  Aks:E D8 = .text Qw
  Ry:E Cs = .text Ky
  Kd:E An = .textK Cd
  Dr:E Ai = .textK Dc
  A0b:E Pj = .text Yg
  Art:E Lo = .text Tb
  Age:E Gv = .text Ny
  Za:E Br = .text J7
  Zr:E C9 = .text Kc
  T8:E B3 = .text Gc
  U4:E Bv = .textK G4
  Mp:E A8 = .textK C6
  Mq:E Ar = .text C7
  Rn:E Cb = .text Fc
  Lw:E Av = .textK Cv
  Wd:E Ck = .textK Ir
  Nk:E Az = .text Dd
  Uc:E Db = .text Ly
  Abk:E E5 = .text La
  Ov:E Bg = .textK Dx
  A0a:E Pi = .text Yf
  Av0:E Nd = .text Vj
  Lv:E Bh = .textK Cu
  U7:E C0 = .text G7
  U5:E Cz = .textK G5
  Mh:E Ay = .textK C5
  Zm:E Ea = .text Ka
  We:E Dg = .text Is
end Go.L.Try
