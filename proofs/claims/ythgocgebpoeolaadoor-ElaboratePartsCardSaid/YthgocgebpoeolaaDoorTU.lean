import Derived.Test.YthgocgebpoeolaaDoorTQ
set_option maxRecDepth 100000
set_option maxHeartbeats 1000000
set_option linter.unusedSimpArgs false
set_option linter.unusedVariables false
namespace Go.Pi.Terms
open Go Go.Pi Go.Proofs.YthgocgebpoeolaaDoor
def q13_3 : PC := (.seq (.seq (.ops [⟨.fa 0,[.s 6],some 213,none,none⟩,⟨.ldL 1 false,[.s 213],some 214,some 6,none⟩]) (.block 3 (.seq (.ops [⟨.bin .eql,[.s 214,.c (.v (.int .i64 1))],some 216,none,none⟩,⟨.mv,[.s 216],some 215,none,none⟩]) (.cond (.s 215) (.seq (.seq (.ops [⟨.mv,[.s 3],some 217,none,none⟩,⟨.bin .gtr,[.s 217,.c (.v (.int .i64 0))],some 218,none,none⟩]) (.cond (.s 218) (.seq (.ops [⟨.mv,[.s 0],some 219,none,none⟩,⟨.callF 19,[.s 219,.c (.v (.int .i64 5))],some 220,none,none⟩]) (.block 4 (.seq (.ops [⟨.bin .eql,[.s 220,.c (.v (.int .i64 0))],some 222,none,none⟩,⟨.mv,[.s 222],some 221,none,none⟩]) (.cond (.s 221) (.seq (.ops [⟨.mv,[.s 0],some 223,none,none⟩,⟨.mv,[.s 1],some 224,none,none⟩,⟨.ldL 2 true,[.s 6],some 225,some 6,none⟩,⟨.mv,[.s 3],some 226,none,none⟩,⟨.bin .sub,[.s 226,.c (.v (.int .i64 1))],some 227,none,none⟩,⟨.callF 24,[.s 223,.s 224,.s 225,.s 227],some 228,none,none⟩,⟨.bslice [.v (.int .i64 0),.v (.int .i64 0),.v (.int .i64 0),.sl 0 0 [],.sl 0 0 []] 1 5 [0],[.s 228],some 229,none,none⟩,⟨.callF 17,[.c (.v (.int .i64 5)),.s 229],some 230,none,none⟩,⟨.stL 5,[.s 8,.s 230],none,some 8,none⟩]) .ret) (.seq (.ops [⟨.bin .eql,[.s 220,.c (.v (.int .i64 1))],some 232,none,none⟩,⟨.mv,[.s 232],some 231,none,none⟩]) (.cond (.s 231) (.seq (.ops [⟨.callF 46,[],some 233,none,none⟩,⟨.mv,[.s 0],some 234,none,none⟩,⟨.mv,[.s 1],some 235,none,none⟩,⟨.ldL 2 true,[.s 6],some 236,some 6,none⟩,⟨.mv,[.s 3],some 237,none,none⟩,⟨.bin .sub,[.s 237,.c (.v (.int .i64 1))],some 238,none,none⟩,⟨.callF 24,[.s 234,.s 235,.s 236,.s 238],some 239,none,none⟩,⟨.mv,[.s 0],some 240,none,none⟩,⟨.mv,[.s 1],some 241,none,none⟩,⟨.ldL 2 true,[.s 6],some 242,some 6,none⟩,⟨.mv,[.s 3],some 243,none,none⟩,⟨.bin .sub,[.s 243,.c (.v (.int .i64 1))],some 244,none,none⟩,⟨.callF 24,[.s 240,.s 241,.s 242,.s 244],some 245,none,none⟩,⟨.bslice [.v (.int .i64 0),.v (.int .i64 0),.v (.int .i64 0),.sl 0 0 [],.sl 0 0 []] 2 5 [0,1],[.s 239,.s 245],some 246,none,none⟩,⟨.callF 45,[.s 233,.s 246],some 247,none,none⟩,⟨.stL 5,[.s 8,.s 247],none,some 8,none⟩]) .ret) (.seq (.ops [⟨.bin .eql,[.s 220,.c (.v (.int .i64 2))],some 249,none,none⟩,⟨.mv,[.s 249],some 248,none,none⟩]) (.cond (.s 248) (.seq (.ops [⟨.callF 47,[],some 250,none,none⟩,⟨.mv,[.s 0],some 251,none,none⟩,⟨.mv,[.s 1],some 252,none,none⟩,⟨.ldL 2 true,[.s 6],some 253,some 6,none⟩,⟨.mv,[.s 3],some 254,none,none⟩,⟨.bin .sub,[.s 254,.c (.v (.int .i64 1))],some 255,none,none⟩,⟨.callF 24,[.s 251,.s 252,.s 253,.s 255],some 256,none,none⟩,⟨.mv,[.s 0],some 257,none,none⟩,⟨.mv,[.s 1],some 258,none,none⟩,⟨.ldL 2 true,[.s 6],some 259,some 6,none⟩,⟨.mv,[.s 3],some 260,none,none⟩,⟨.bin .sub,[.s 260,.c (.v (.int .i64 1))],some 261,none,none⟩,⟨.callF 24,[.s 257,.s 258,.s 259,.s 261],some 262,none,none⟩,⟨.bslice [.v (.int .i64 0),.v (.int .i64 0),.v (.int .i64 0),.sl 0 0 [],.sl 0 0 []] 2 5 [0,1],[.s 256,.s 262],some 263,none,none⟩,⟨.callF 45,[.s 250,.s 263],some 264,none,none⟩,⟨.stL 5,[.s 8,.s 264],none,some 8,none⟩]) .ret) .skip)))))))) .skip)) (.seq (.ops [⟨.mv,[.s 0],some 265,none,none⟩,⟨.callF 19,[.s 265,.c (.v (.int .i64 3))],some 266,none,none⟩,⟨.callF 16,[.s 266],some 267,none,none⟩,⟨.stL 5,[.s 8,.s 267],none,some 8,none⟩]) .ret)) (.seq (.ops [⟨.bin .eql,[.s 214,.c (.v (.int .i64 2))],some 269,none,none⟩,⟨.mv,[.s 269],some 268,none,none⟩]) (.cond (.s 268) (.seq (.seq (.ops [⟨.mv,[.s 3],some 270,none,none⟩,⟨.bin .gtr,[.s 270,.c (.v (.int .i64 0))],some 271,none,none⟩,⟨.mv,[.s 271],some 272,none,none⟩,⟨.mv,[.s 0],some 273,none,some (272,true)⟩,⟨.callF 19,[.s 273,.c (.v (.int .i64 2))],some 274,none,some (272,true)⟩,⟨.bin .eql,[.s 274,.c (.v (.int .i64 0))],some 275,none,some (272,true)⟩,⟨.pick,[.s 272,.s 275,.c (.v (.bool false))],some 276,none,none⟩]) (.cond (.s 276) (.seq (.ops [⟨.mv,[.s 0],some 277,none,none⟩,⟨.mv,[.s 1],some 278,none,none⟩,⟨.callF 23,[],some 279,none,none⟩,⟨.mv,[.s 3],some 280,none,none⟩,⟨.bin .sub,[.s 280,.c (.v (.int .i64 1))],some 281,none,none⟩,⟨.callF 24,[.s 277,.s 278,.s 279,.s 281],some 282,none,none⟩,⟨.mv,[.s 0],some 283,none,none⟩,⟨.mv,[.s 1],some 284,none,none⟩,⟨.ldL 2 true,[.s 6],some 285,some 6,none⟩,⟨.mv,[.s 3],some 286,none,none⟩,⟨.bin .sub,[.s 286,.c (.v (.int .i64 1))],some 287,none,none⟩,⟨.callF 24,[.s 283,.s 284,.s 285,.s 287],some 288,none,none⟩,⟨.bslice [.v (.int .i64 0),.v (.int .i64 0),.v (.int .i64 0),.sl 0 0 [],.sl 0 0 []] 2 5 [0,1],[.s 282,.s 288],some 289,none,none⟩,⟨.callF 17,[.c (.v (.int .i64 8)),.s 289],some 290,none,none⟩,⟨.stL 5,[.s 8,.s 290],none,some 8,none⟩]) .ret) .skip)) (.seq (.ops [⟨.callF 17,[.c (.v (.int .i64 7)),.c (.sl 1 0 [])],some 291,none,none⟩,⟨.stL 5,[.s 8,.s 291],none,some 8,none⟩]) .ret)) (.seq (.ops [⟨.bin .eql,[.s 214,.c (.v (.int .i64 3))],some 293,none,none⟩,⟨.mv,[.s 293],some 292,none,none⟩]) (.cond (.s 292) (.seq (.ops [⟨.mv,[.s 0],some 294,none,none⟩,⟨.mv,[.s 1],some 295,none,none⟩,⟨.fa 1,[.s 6],some 296,none,none⟩,⟨.ldL 1 false,[.s 296],some 297,some 6,none⟩,⟨.ia 2,[.s 297,.c (.v (.int .i64 0))],some 298,none,none⟩,⟨.ldE 2 true,[.s 298],some 299,none,none⟩,⟨.mv,[.s 3],some 300,none,none⟩,⟨.bin .sub,[.s 300,.c (.v (.int .i64 1))],some 301,none,none⟩,⟨.callF 24,[.s 294,.s 295,.s 299,.s 301],some 302,none,none⟩,⟨.mv,[.s 0],some 303,none,none⟩,⟨.mv,[.s 1],some 304,none,none⟩,⟨.fa 1,[.s 6],some 305,none,none⟩,⟨.ldL 1 false,[.s 305],some 306,some 6,none⟩,⟨.ia 2,[.s 306,.c (.v (.int .i64 1))],some 307,none,none⟩,⟨.ldE 2 true,[.s 307],some 308,none,none⟩,⟨.mv,[.s 3],some 309,none,none⟩,⟨.bin .sub,[.s 309,.c (.v (.int .i64 1))],some 310,none,none⟩,⟨.callF 24,[.s 303,.s 304,.s 308,.s 310],some 311,none,none⟩,⟨.bslice [.v (.int .i64 0),.v (.int .i64 0),.v (.int .i64 0),.sl 0 0 [],.sl 0 0 []] 2 5 [0,1],[.s 302,.s 311],some 312,none,none⟩,⟨.callF 17,[.c (.v (.int .i64 10)),.s 312],some 313,none,none⟩,⟨.stL 5,[.s 8,.s 313],none,some 8,none⟩]) .ret) (.seq (.ops [⟨.bin .eql,[.s 214,.c (.v (.int .i64 4))],some 315,none,none⟩,⟨.mv,[.s 315],some 314,none,none⟩]) (.cond (.s 314) (.seq (.ops [⟨.fa 1,[.s 6],some 316,none,none⟩,⟨.ldL 1 false,[.s 316],some 317,some 6,none⟩,⟨.ia 2,[.s 317,.c (.v (.int .i64 0))],some 318,none,none⟩,⟨.ldE 2 true,[.s 318],some 319,none,none⟩,⟨.mv,[.s 0],some 320,none,none⟩,⟨.mv,[.s 1],some 321,none,none⟩,⟨.fa 1,[.s 6],some 322,none,none⟩,⟨.ldL 1 false,[.s 322],some 323,some 6,none⟩,⟨.ia 2,[.s 323,.c (.v (.int .i64 0))],some 324,none,none⟩,⟨.ldE 2 true,[.s 324],some 325,none,none⟩,⟨.bslice [.v (.int .i64 0),.sl 0 0 []] 1 2 [0],[.s 325],some 326,none,none⟩,⟨.callF 22,[.s 321,.s 326],some 327,none,none⟩,⟨.fa 1,[.s 6],some 328,none,none⟩,⟨.ldL 1 false,[.s 328],some 329,some 6,none⟩,⟨.ia 2,[.s 329,.c (.v (.int .i64 1))],some 330,none,none⟩,⟨.ldE 2 true,[.s 330],some 331,none,none⟩,⟨.mv,[.s 3],some 332,none,none⟩,⟨.bin .sub,[.s 332,.c (.v (.int .i64 1))],some 333,none,none⟩,⟨.callF 24,[.s 320,.s 327,.s 331,.s 333],some 334,none,none⟩,⟨.bslice [.v (.int .i64 0),.v (.int .i64 0),.v (.int .i64 0),.sl 0 0 [],.sl 0 0 []] 1 5 [0],[.s 334],some 335,none,none⟩,⟨.callF 44,[.c (.v (.int .i64 2)),.s 319,.s 335],some 336,none,none⟩,⟨.stL 5,[.s 8,.s 336],none,some 8,none⟩]) .ret) .skip)))))))))) (.seq (.ops [⟨.callF 17,[.c (.v (.int .i64 13)),.c (.sl 1 0 [])],some 337,none,none⟩,⟨.stL 5,[.s 8,.s 337],none,some 8,none⟩]) .ret))
def q13_2 : PC := .seq (.seq (.ops [⟨.mv,[.s 3],some 36,none,none⟩,⟨.bin .gtr,[.s 36,.c (.v (.int .i64 0))],some 37,none,none⟩]) (.cond (.s 37) (.seq (.ops [⟨.mv,[.s 0],some 38,none,none⟩,⟨.callF 19,[.s 38,.c (.v (.int .i64 8))],some 39,none,none⟩]) (.block 0 (.seq (.ops [⟨.bin .eql,[.s 39,.c (.v (.int .i64 0))],some 41,none,none⟩,⟨.mv,[.s 41],some 40,none,none⟩]) (.cond (.s 40) (.seq (.ops [⟨.mv,[.s 0],some 42,none,none⟩,⟨.callF 20,[.s 42,.c (.v (.int .i64 0))],some 43,none,none⟩,⟨.alloc [.v (.int .i64 0),.sl 1 0 []],[],some 10,none,none⟩,⟨.stL 2,[.s 10,.s 43],none,some 10,none⟩]) (.seq (.ops [⟨.ldL 2 true,[.s 10],some 44,some 10,none⟩,⟨.mv,[.s 0],some 45,none,none⟩,⟨.mv,[.s 1],some 46,none,none⟩,⟨.ldL 2 true,[.s 10],some 47,some 10,none⟩,⟨.bslice [.v (.int .i64 0),.sl 0 0 []] 1 2 [0],[.s 47],some 48,none,none⟩,⟨.callF 22,[.s 46,.s 48],some 49,none,none⟩,⟨.ldL 2 true,[.s 6],some 50,some 6,none⟩,⟨.mv,[.s 3],some 51,none,none⟩,⟨.bin .sub,[.s 51,.c (.v (.int .i64 1))],some 52,none,none⟩,⟨.callF 24,[.s 45,.s 49,.s 50,.s 52],some 53,none,none⟩,⟨.bslice [.v (.int .i64 0),.v (.int .i64 0),.v (.int .i64 0),.sl 0 0 [],.sl 0 0 []] 1 5 [0],[.s 53],some 54,none,none⟩,⟨.callF 44,[.c (.v (.int .i64 2)),.s 44,.s 54],some 55,none,none⟩,⟨.mv,[.s 0],some 56,none,none⟩,⟨.mv,[.s 1],some 57,none,none⟩,⟨.ldL 2 true,[.s 10],some 58,some 10,none⟩,⟨.mv,[.s 3],some 59,none,none⟩,⟨.bin .sub,[.s 59,.c (.v (.int .i64 1))],some 60,none,none⟩,⟨.callF 24,[.s 56,.s 57,.s 58,.s 60],some 61,none,none⟩,⟨.bslice [.v (.int .i64 0),.v (.int .i64 0),.v (.int .i64 0),.sl 0 0 [],.sl 0 0 []] 2 5 [0,1],[.s 55,.s 61],some 62,none,none⟩,⟨.callF 17,[.c (.v (.int .i64 3)),.s 62],some 63,none,none⟩,⟨.stL 5,[.s 8,.s 63],none,some 8,none⟩]) .ret)) (.seq (.ops [⟨.bin .eql,[.s 39,.c (.v (.int .i64 1))],some 65,none,none⟩,⟨.mv,[.s 65],some 64,none,none⟩]) (.cond (.s 64) (.seq (.ops [⟨.mv,[.s 0],some 66,none,none⟩,⟨.callF 20,[.s 66,.c (.v (.int .i64 0))],some 67,none,none⟩,⟨.alloc [.v (.int .i64 0),.sl 1 0 []],[],some 11,none,none⟩,⟨.stL 2,[.s 11,.s 67],none,some 11,none⟩]) (.seq (.ops [⟨.mv,[.s 0],some 68,none,none⟩,⟨.mv,[.s 1],some 69,none,none⟩,⟨.ldL 2 true,[.s 6],some 70,some 6,none⟩,⟨.mv,[.s 3],some 71,none,none⟩,⟨.bin .sub,[.s 71,.c (.v (.int .i64 1))],some 72,none,none⟩,⟨.callF 24,[.s 68,.s 69,.s 70,.s 72],some 73,none,none⟩,⟨.mv,[.s 0],some 74,none,none⟩,⟨.mv,[.s 1],some 75,none,none⟩,⟨.ldL 2 true,[.s 11],some 76,some 11,none⟩,⟨.mv,[.s 3],some 77,none,none⟩,⟨.bin .sub,[.s 77,.c (.v (.int .i64 1))],some 78,none,none⟩,⟨.callF 24,[.s 74,.s 75,.s 76,.s 78],some 79,none,none⟩,⟨.bslice [.v (.int .i64 0),.v (.int .i64 0),.v (.int .i64 0),.sl 0 0 [],.sl 0 0 []] 2 5 [0,1],[.s 73,.s 79],some 80,none,none⟩,⟨.callF 17,[.c (.v (.int .i64 10)),.s 80],some 81,none,none⟩,⟨.bslice [.v (.int .i64 0),.v (.int .i64 0),.v (.int .i64 0),.sl 0 0 [],.sl 0 0 []] 1 5 [0],[.s 81],some 82,none,none⟩,⟨.callF 17,[.c (.v (.int .i64 11)),.s 82],some 83,none,none⟩,⟨.stL 5,[.s 8,.s 83],none,some 8,none⟩]) .ret)) (.seq (.ops [⟨.bin .eql,[.s 39,.c (.v (.int .i64 2))],some 85,none,none⟩,⟨.mv,[.s 85],some 84,none,none⟩]) (.cond (.s 84) (.seq (.ops [⟨.callF 23,[],some 86,none,none⟩,⟨.ldL 2 true,[.s 6],some 87,some 6,none⟩,⟨.mv,[.s 0],some 88,none,none⟩,⟨.mv,[.s 1],some 89,none,none⟩,⟨.callF 23,[],some 90,none,none⟩,⟨.ldL 2 true,[.s 6],some 91,some 6,none⟩,⟨.bslice [.v (.int .i64 0),.sl 0 0 []] 2 2 [0,1],[.s 90,.s 91],some 92,none,none⟩,⟨.callF 22,[.s 89,.s 92],some 93,none,none⟩,⟨.ldL 2 true,[.s 6],some 94,some 6,none⟩,⟨.mv,[.s 3],some 95,none,none⟩,⟨.bin .sub,[.s 95,.c (.v (.int .i64 1))],some 96,none,none⟩,⟨.callF 24,[.s 88,.s 93,.s 94,.s 96],some 97,none,none⟩,⟨.bslice [.v (.int .i64 0),.v (.int .i64 0),.v (.int .i64 0),.sl 0 0 [],.sl 0 0 []] 1 5 [0],[.s 97],some 98,none,none⟩,⟨.callF 44,[.c (.v (.int .i64 2)),.s 87,.s 98],some 99,none,none⟩,⟨.bslice [.v (.int .i64 0),.v (.int .i64 0),.v (.int .i64 0),.sl 0 0 [],.sl 0 0 []] 1 5 [0],[.s 99],some 100,none,none⟩,⟨.callF 44,[.c (.v (.int .i64 2)),.s 86,.s 100],some 101,none,none⟩,⟨.alloc [.v (.int .i64 0),.v (.int .i64 0),.v (.int .i64 0),.sl 1 0 [],.sl 1 0 []],[],some 12,none,none⟩,⟨.stL 5,[.s 12,.s 101],none,some 12,none⟩]) (.seq (.ops [⟨.ldL 2 true,[.s 6],some 102,some 6,none⟩,⟨.mv,[.s 0],some 103,none,none⟩,⟨.mv,[.s 1],some 104,none,none⟩,⟨.ldL 2 true,[.s 6],some 105,some 6,none⟩,⟨.mv,[.s 3],some 106,none,none⟩,⟨.bin .sub,[.s 106,.c (.v (.int .i64 1))],some 107,none,none⟩,⟨.callF 24,[.s 103,.s 104,.s 105,.s 107],some 108,none,none⟩,⟨.ldL 5 true,[.s 12],some 109,some 12,none⟩,⟨.mv,[.s 0],some 110,none,none⟩,⟨.callF 19,[.s 110,.c (.v (.int .i64 3))],some 111,none,none⟩,⟨.callF 16,[.s 111],some 112,none,none⟩,⟨.bslice [.v (.int .i64 0),.v (.int .i64 0),.v (.int .i64 0),.sl 0 0 [],.sl 0 0 []] 3 5 [0,1,2],[.s 108,.s 109,.s 112],some 113,none,none⟩,⟨.callF 44,[.c (.v (.int .i64 6)),.s 102,.s 113],some 114,none,none⟩,⟨.stL 5,[.s 8,.s 114],none,some 8,none⟩]) .ret)) (.seq (.ops [⟨.bin .eql,[.s 39,.c (.v (.int .i64 3))],some 116,none,none⟩,⟨.mv,[.s 116],some 115,none,none⟩]) (.cond (.s 115) (.seq (.ops [⟨.callF 23,[],some 117,none,none⟩,⟨.callF 38,[],some 118,none,none⟩,⟨.ldL 2 true,[.s 6],some 119,some 6,none⟩,⟨.mv,[.s 0],some 120,none,none⟩,⟨.mv,[.s 1],some 121,none,none⟩,⟨.callF 23,[],some 122,none,none⟩,⟨.callF 38,[],some 123,none,none⟩,⟨.ldL 2 true,[.s 6],some 124,some 6,none⟩,⟨.bslice [.v (.int .i64 0),.sl 0 0 []] 3 2 [0,1,2],[.s 122,.s 123,.s 124],some 125,none,none⟩,⟨.callF 22,[.s 121,.s 125],some 126,none,none⟩,⟨.ldL 2 true,[.s 6],some 127,some 6,none⟩,⟨.mv,[.s 3],some 128,none,none⟩,⟨.bin .sub,[.s 128,.c (.v (.int .i64 1))],some 129,none,none⟩,⟨.callF 24,[.s 120,.s 126,.s 127,.s 129],some 130,none,none⟩,⟨.bslice [.v (.int .i64 0),.v (.int .i64 0),.v (.int .i64 0),.sl 0 0 [],.sl 0 0 []] 1 5 [0],[.s 130],some 131,none,none⟩,⟨.callF 44,[.c (.v (.int .i64 2)),.s 119,.s 131],some 132,none,none⟩,⟨.bslice [.v (.int .i64 0),.v (.int .i64 0),.v (.int .i64 0),.sl 0 0 [],.sl 0 0 []] 1 5 [0],[.s 132],some 133,none,none⟩,⟨.callF 44,[.c (.v (.int .i64 2)),.s 118,.s 133],some 134,none,none⟩,⟨.bslice [.v (.int .i64 0),.v (.int .i64 0),.v (.int .i64 0),.sl 0 0 [],.sl 0 0 []] 1 5 [0],[.s 134],some 135,none,none⟩,⟨.callF 44,[.c (.v (.int .i64 2)),.s 117,.s 135],some 136,none,none⟩,⟨.alloc [.v (.int .i64 0),.v (.int .i64 0),.v (.int .i64 0),.sl 1 0 [],.sl 1 0 []],[],some 13,none,none⟩,⟨.stL 5,[.s 13,.s 136],none,some 13,none⟩]) (.seq (.ops [⟨.ldL 2 true,[.s 6],some 137,some 6,none⟩,⟨.mv,[.s 0],some 138,none,none⟩,⟨.mv,[.s 1],some 139,none,none⟩,⟨.ldL 2 true,[.s 6],some 140,some 6,none⟩,⟨.mv,[.s 3],some 141,none,none⟩,⟨.bin .sub,[.s 141,.c (.v (.int .i64 1))],some 142,none,none⟩,⟨.callF 24,[.s 138,.s 139,.s 140,.s 142],some 143,none,none⟩,⟨.ldL 5 true,[.s 13],some 144,some 13,none⟩,⟨.mv,[.s 0],some 145,none,none⟩,⟨.mv,[.s 1],some 146,none,none⟩,⟨.callF 38,[],some 147,none,none⟩,⟨.mv,[.s 3],some 148,none,none⟩,⟨.bin .sub,[.s 148,.c (.v (.int .i64 1))],some 149,none,none⟩,⟨.callF 24,[.s 145,.s 146,.s 147,.s 149],some 150,none,none⟩,⟨.bslice [.v (.int .i64 0),.v (.int .i64 0),.v (.int .i64 0),.sl 0 0 [],.sl 0 0 []] 3 5 [0,1,2],[.s 143,.s 144,.s 150],some 151,none,none⟩,⟨.callF 44,[.c (.v (.int .i64 9)),.s 137,.s 151],some 152,none,none⟩,⟨.stL 5,[.s 8,.s 152],none,some 8,none⟩]) .ret)) (.seq (.ops [⟨.bin .eql,[.s 39,.c (.v (.int .i64 4))],some 154,none,none⟩,⟨.mv,[.s 154],some 153,none,none⟩]) (.cond (.s 153) (.seq (.ops [⟨.mv,[.s 0],some 155,none,none⟩,⟨.callF 20,[.s 155,.c (.v (.int .i64 0))],some 156,none,none⟩,⟨.alloc [.v (.int .i64 0),.sl 1 0 []],[],some 14,none,none⟩,⟨.stL 2,[.s 14,.s 156],none,some 14,none⟩]) (.seq (.ops [⟨.mv,[.s 0],some 157,none,none⟩,⟨.mv,[.s 1],some 158,none,none⟩,⟨.ldL 2 true,[.s 14],some 159,some 14,none⟩,⟨.mv,[.s 3],some 160,none,none⟩,⟨.bin .sub,[.s 160,.c (.v (.int .i64 1))],some 161,none,none⟩,⟨.callF 24,[.s 157,.s 158,.s 159,.s 161],some 162,none,none⟩,⟨.mv,[.s 0],some 163,none,none⟩,⟨.mv,[.s 1],some 164,none,none⟩,⟨.ldL 2 true,[.s 6],some 165,some 6,none⟩,⟨.mv,[.s 3],some 166,none,none⟩,⟨.bin .sub,[.s 166,.c (.v (.int .i64 1))],some 167,none,none⟩,⟨.callF 24,[.s 163,.s 164,.s 165,.s 167],some 168,none,none⟩,⟨.bslice [.v (.int .i64 0),.v (.int .i64 0),.v (.int .i64 0),.sl 0 0 [],.sl 0 0 []] 2 5 [0,1],[.s 162,.s 168],some 169,none,none⟩,⟨.callF 17,[.c (.v (.int .i64 10)),.s 169],some 170,none,none⟩,⟨.bslice [.v (.int .i64 0),.v (.int .i64 0),.v (.int .i64 0),.sl 0 0 [],.sl 0 0 []] 1 5 [0],[.s 170],some 171,none,none⟩,⟨.callF 17,[.c (.v (.int .i64 12)),.s 171],some 172,none,none⟩,⟨.stL 5,[.s 8,.s 172],none,some 8,none⟩]) .ret)) (.seq (.ops [⟨.bin .eql,[.s 39,.c (.v (.int .i64 5))],some 174,none,none⟩,⟨.mv,[.s 174],some 173,none,none⟩]) (.cond (.s 173) (.seq (.ops [⟨.mv,[.s 1],some 175,none,none⟩,⟨.len,[.s 175],some 176,none,none⟩,⟨.mv,[.c (.v (.int .i64 0))],some 177,none,none⟩]) (.block 1 (.loop (.seq (.ops [⟨.bin .lss,[.s 177,.s 176],some 178,none,none⟩]) (.seq (.cond (.s 178) .skip (.exit 1)) (.seq (.block 2 (.seq (.ops [⟨.mv,[.s 177],some 179,none,none⟩,⟨.mv,[.s 179],some 15,none,none⟩]) (.seq (.ops [⟨.mv,[.s 1],some 180,none,none⟩,⟨.mv,[.s 1],some 181,none,none⟩,⟨.len,[.s 181],some 182,none,none⟩,⟨.bin .sub,[.s 182,.c (.v (.int .i64 1))],some 183,none,none⟩,⟨.mv,[.s 15],some 184,none,none⟩,⟨.bin .sub,[.s 183,.s 184],some 185,none,none⟩,⟨.ia 2,[.s 180,.s 185],some 186,none,none⟩,⟨.ldE 2 true,[.s 186],some 187,none,none⟩,⟨.alloc [.v (.int .i64 0),.sl 1 0 []],[],some 16,none,none⟩,⟨.stL 2,[.s 16,.s 187],none,some 16,none⟩]) (.seq (.ops [⟨.fa 0,[.s 16],some 188,none,none⟩,⟨.ldL 1 false,[.s 188],some 189,some 16,none⟩,⟨.bin .eql,[.s 189,.c (.v (.int .i64 4))],some 190,none,none⟩,⟨.mv,[.s 190],some 191,none,none⟩,⟨.fa 1,[.s 16],some 192,none,some (191,true)⟩,⟨.ldL 1 false,[.s 192],some 193,some 16,some (191,true)⟩,⟨.ia 2,[.s 193,.c (.v (.int .i64 1))],some 194,none,some (191,true)⟩,⟨.ldE 2 true,[.s 194],some 195,none,some (191,true)⟩,⟨.ldL 2 true,[.s 6],some 196,some 6,some (191,true)⟩,⟨.callF 11,[.s 195,.s 196],some 197,none,some (191,true)⟩,⟨.pick,[.s 191,.s 197,.c (.v (.bool false))],some 198,none,none⟩]) (.cond (.s 198) (.seq (.ops [⟨.mv,[.s 15],some 199,none,none⟩,⟨.callF 15,[.s 199],some 200,none,none⟩,⟨.mv,[.s 0],some 201,none,none⟩,⟨.mv,[.s 1],some 202,none,none⟩,⟨.fa 1,[.s 16],some 203,none,none⟩,⟨.ldL 1 false,[.s 203],some 204,some 16,none⟩,⟨.ia 2,[.s 204,.c (.v (.int .i64 0))],some 205,none,none⟩,⟨.ldE 2 true,[.s 205],some 206,none,none⟩,⟨.mv,[.s 3],some 207,none,none⟩,⟨.bin .sub,[.s 207,.c (.v (.int .i64 1))],some 208,none,none⟩,⟨.callF 24,[.s 201,.s 202,.s 206,.s 208],some 209,none,none⟩,⟨.bslice [.v (.int .i64 0),.v (.int .i64 0),.v (.int .i64 0),.sl 0 0 [],.sl 0 0 []] 2 5 [0,1],[.s 200,.s 209],some 210,none,none⟩,⟨.callF 17,[.c (.v (.int .i64 3)),.s 210],some 211,none,none⟩,⟨.stL 5,[.s 8,.s 211],none,some 8,none⟩]) .ret) .skip))))) (.ops [⟨.bin .add,[.s 177,.c (.v (.int .i64 1))],some 212,none,none⟩,⟨.mv,[.s 212],some 177,none,none⟩]))))))) .skip)))))))))))))) .skip)) q13_3
theorem gs (l : List PV) (i : Nat) (x : PV) (j : Nat) (d : PV) : (l.set i x).getD j d = if i = j ∧ i < l.length then x else l.getD j d := by
  simp only [List.getD_eq_getElem?_getD, List.getElem?_set]
  by_cases h : i = j
  · subst h
    by_cases h2 : i < l.length
    · simp [h2]
    · simp [h2]
  · simp [h]

theorem num42 (sh : Sh) (r : Int) (h : 0 ≤ r ∧ r < 3) : ∃ x : Tm, (∀ g, HasTy g x .nat) ∧ x.size ≤ 3 ∧ ∃ n, callN T G n 16 [i64 r] sh = some (.ag x.row, sh) := by
  have hx : r = 0 ∨ r = 1 ∨ r = 2 := by omega
  rcases hx with rfl | rfl | rfl
  · exact ⟨_, fun _ => .zero, by decide, num_0 sh⟩
  · exact ⟨_, fun _ => .succ .zero, by decide, num_1 sh⟩
  · exact ⟨_, fun _ => .succ (.succ .zero), by decide, num_2 sh⟩

theorem HasTy.v {g : List Ty} {i : Nat} {t : Ty} (h : i < g.length) (e : g.getD (g.length - 1 - i) .nat = t) : HasTy g (.var i) t := e ▸ HasTy.var h
theorem last0 (g : List Ty) (a : Ty) : HasTy (g ++ [a]) (.var 0) a := .v (by simp) (by simp [List.getD_eq_getElem?_getD])
theorem last1 (g : List Ty) (a b : Ty) : HasTy (g ++ [a] ++ [b]) (.var 1) a := .v (by simp) (by simp [List.getD_eq_getElem?_getD])
theorem plus_ty (g : List Ty) : HasTy g plusTm (.fn .nat (.fn .nat .nat)) :=
  .lam (.lam (.recu (last1 _ _ _) (.lam (.lam (.succ (last0 _ _)) (by decide)) (by decide)) (last0 _ _) (by decide)) (by decide)) (by decide)
theorem pred_ty (g : List Ty) : HasTy g predTm (.fn .nat .nat) :=
  .lam (.recu .zero (.lam (.lam (last1 _ _ _) (by decide)) (by decide)) (last0 _ _) (by decide)) (by decide)
theorem sub_ty (g : List Ty) : HasTy g subTm (.fn .nat (.fn .nat .nat)) :=
  .lam (.lam (.recu (last1 _ _ _) (.lam (.lam (.app (pred_ty _) (last0 _ _) (by decide)) (by decide)) (by decide)) (last0 _ _) (by decide)) (by decide)) (by decide)

variable [Inhabited DkT]
/-- What mk.Term must have made. -/
def Made (l : List Int) (g : List Ty) (t : Ty) (B : Nat) (r : PV) (s' : Sh) : Prop := ∃ (x : Tm) (at' : Nat), HasTy g x t ∧ x.size ≤ B ∧ at' ≤ l.length ∧ r = .ag x.row ∧ s' = dk l at'
/-- The registers at the start of a phase of mk.Term. -/
structure RG (l : List Int) (g : List Ty) (zg : Nat) (t : Ty) (d : Int) (rg : List PV) : Prop where
  len : rg.length = 338
  r0 : rg.getD 0 .un = .sp mm 0
  r1 : rg.getD 1 .un = .sl 0 zg (g.map Ty.row)
  r3 : rg.getD 3 .un = i64 d
  r6 : ∃ gen, rg.getD 6 .un = .bx gen [i64 t.kind, .sl 0 t.asz t.arows]
  r8 : ∃ gen, rg.getD 8 .un = .bx gen [i64 0, i64 0, i64 0, .sl 1 0 [], .sl 1 0 []]
/-- What the calls of mk.Term from within do. -/
def Rec (l : List Int) (d : Int) (B c : Nat) (p : Ty → Prop) : Prop := ∀ (g : List Ty) (zg : Nat) (t : Ty) (at_ : Nat), (g ≠ [] → zg = 2) → g.length ≤ c → (∀ u ∈ g, u.nodes ≤ 3) → t.nodes ≤ 3 → p t → at_ ≤ l.length →
  ∃ (x : Tm) (at' : Nat), HasTy g x t ∧ x.size ≤ B ∧ at' ≤ l.length ∧ ∃ n, callN T G n 24 [.sp mm 0, .sl 0 zg (g.map Ty.row), .ag t.row, i64 d] (dk l at_) = some (.ag x.row, dk l at')

/-- The last phase: by the kind of the type; no depth left. -/
theorem term_low (l : List Int) (hl : l.length ≤ 500) (g : List Ty) (zg : Nat) (hz : g ≠ [] → zg = 2) (c : Nat) (hc : c ≤ 900) (hg : g.length + 3 ≤ c) (hb : ∀ u ∈ g, u.nodes ≤ 3) (t : Ty) (ht : t.nodes ≤ 3) (d : Int) (hd : d ≤ 0 ∧ -1000 ≤ d) (B : Nat) (hB : 3 ≤ B ∧ (3 ≤ t.nodes → 7 ≤ B))
    (rec_ : Rec l (d - 1) 3 c fun u => u.nodes + 1 ≤ t.nodes)
    (rg : List PV) (hr : RG l g zg t d rg) (at_ : Nat) (ha : at_ ≤ l.length) (lv : Nat → Bool) (tk : Nat) (n : Nat) :
    R T G [] [.pc q13_3] ⟨rg, ⟨dk l at_, lv, tk⟩⟩ (FQ [.c 8 5 true] false n (Made l g t B)) := by
  obtain ⟨h1, h2, h3, h4, ⟨g6, h6⟩, ⟨g8, h8⟩⟩ := hr
  have d1 : ¬ (0 < d) := by omega
  have w1 : IntKind.i64.wrap (d - 1) = d - 1 := wrap_i64 (by omega)
  unfold q13_3
  cases t with
  | nat =>
    obtain ⟨r, a1, hr, ha1, hn⟩ := next36 l at_ 3 (by omega) ha hl
    obtain ⟨x, hx, hs, hm⟩ := num42 (dk l a1) r hr
    simp only [Tm.row, tmAll] at hm
    have u := clR.use hn
    have v := clR.use hm
    simp only [Ty.row, tyAll] at h6
    simp only [wp0, wp1, wp2, wp3, wp4, wp5, Int.reduceAdd, Int.reduceEq, Int.reduceLE, Int.reduceLT, Int.reduceNeg, Int.reduceSub, Int.reduceToNat, Nat.reduceAdd, Nat.reduceDiv, Nat.reduceEqDiff, Nat.reduceLT, Nat.reduceLeDiff, Nat.reduceMod, Nat.reduceMul, Nat.reduceSub, eq_self, reduceIte, gs, List.length_set, h1, h2, h3, h4, h6, h8, d1, u, v]
    exact ⟨x, a1, hx g, by omega, ha1, rfl, rfl⟩
  | list =>
    have v := clR.use (n0 (dk l at_) 7)
    simp only [Ty.row, tyAll] at h6
    simp only [wp0, wp1, wp2, wp3, wp4, wp5, Int.reduceAdd, Int.reduceEq, Int.reduceLE, Int.reduceLT, Int.reduceNeg, Int.reduceSub, Int.reduceToNat, Nat.reduceAdd, Nat.reduceDiv, Nat.reduceEqDiff, Nat.reduceLT, Nat.reduceLeDiff, Nat.reduceMod, Nat.reduceMul, Nat.reduceSub, eq_self, reduceIte, gs, List.length_set, h1, h2, h3, h4, h6, h8, d1, v]
    exact ⟨.nil, at_, .nil, by simp only [Tm.size]; omega, ha, rfl, rfl⟩
  | unit =>
    have v := clR.use (n0 (dk l at_) 13)
    simp only [Ty.row, tyAll] at h6
    simp only [wp0, wp1, wp2, wp3, wp4, wp5, Int.reduceAdd, Int.reduceEq, Int.reduceLE, Int.reduceLT, Int.reduceNeg, Int.reduceSub, Int.reduceToNat, Nat.reduceAdd, Nat.reduceDiv, Nat.reduceEqDiff, Nat.reduceLT, Nat.reduceLeDiff, Nat.reduceMod, Nat.reduceMul, Nat.reduceSub, eq_self, reduceIte, gs, List.length_set, h1, h2, h3, h4, h6, h8, d1, w1, v]
    exact ⟨.unit, at_, .unit, by simp only [Tm.size]; omega, ha, rfl, rfl⟩
  | pair a b =>
    have hn : 1 + a.nodes + b.nodes ≤ 3 := ht
    have pa := a.nodes_pos
    have pb := b.nodes_pos
    try simp only [Ty.nodes] at hB
    obtain ⟨x, a1, hx, hxs, ha1, mx⟩ := rec_ g zg a at_ hz (by omega) hb (by omega) (by first | trivial | (simp only [Ty.nodes]; omega)) ha
    obtain ⟨y, a2, hy, hys, ha2, my⟩ := rec_ g zg b a1 hz (by omega) hb (by omega) (by first | trivial | (simp only [Ty.nodes]; omega)) ha1
    have m3 := n2 (dk l a2) 10 x y
    simp only [Ty.row, tyAll, Tm.row, tmAll] at mx my m3 h6
    have u := clR.use mx
    have v := clR.use my
    have w := clR.use m3
    simp only [wp0, wp1, wp2, wp3, wp4, wp5, Int.reduceAdd, Int.reduceEq, Int.reduceLE, Int.reduceLT, Int.reduceNeg, Int.reduceSub, Int.reduceToNat, Nat.reduceAdd, Nat.reduceDiv, Nat.reduceEqDiff, Nat.reduceLT, Nat.reduceLeDiff, Nat.reduceMod, Nat.reduceMul, Nat.reduceSub, eq_self, reduceIte, gs, List.length_set, h1, h2, h3, h4, h6, h8, d1, w1, u, v, w]
    exact ⟨.pair x y, a2, .pair hx hy (by simp only [Ty.nodes]; omega), by simp only [Tm.size]; omega, ha2, rfl, rfl⟩
  | fn a b =>
    have hn : 1 + a.nodes + b.nodes ≤ 3 := ht
    have pa := a.nodes_pos
    have pb := b.nodes_pos
    try simp only [Ty.nodes] at hB
    have m1 := longer41 g [a] zg 2 hz (fun _ => rfl) (by omega) (by simp) (dk l at_)
    obtain ⟨x, a1, hx, hxs, ha1, mx⟩ := rec_ (g ++ [a]) 2 b at_ (fun _ => rfl) (by simp; omega) (fun u hu => by rcases List.mem_append.1 hu with h | h; exact hb u h; obtain rfl := List.mem_singleton.1 h; omega) (by omega) (by first | trivial | (simp only [Ty.nodes]; omega)) ha
    have m3 := t1 (dk l a1) 2 x a
    simp only [Ty.row, tyAll, Tm.row, tmAll, List.map_append, List.map_cons, List.map_nil] at mx m1 m3 h6
    have u := clR.use mx
    have v := clR.use m1
    have w := clR.use m3
    simp only [wp0, wp1, wp2, wp3, wp4, wp5, Int.reduceAdd, Int.reduceEq, Int.reduceLE, Int.reduceLT, Int.reduceNeg, Int.reduceSub, Int.reduceToNat, Nat.reduceAdd, Nat.reduceDiv, Nat.reduceEqDiff, Nat.reduceLT, Nat.reduceLeDiff, Nat.reduceMod, Nat.reduceMul, Nat.reduceSub, eq_self, reduceIte, gs, List.length_set, h1, h2, h3, h4, h6, h8, d1, w1, u, v, w]
    exact ⟨.lam a x, a1, .lam hx (by simp only [Ty.nodes]; omega), by simp only [Tm.size]; omega, ha1, rfl, rfl⟩

/-- The last phase with depth left. -/
theorem term_kind (l : List Int) (hl : l.length ≤ 500) (g : List Ty) (zg : Nat) (hz : g ≠ [] → zg = 2) (c : Nat) (hc : c ≤ 900) (hg : g.length + 3 ≤ c) (hb : ∀ u ∈ g, u.nodes ≤ 3) (t : Ty) (ht : t.nodes ≤ 3) (d : Int) (hd : 0 < d ∧ d ≤ 100) (B : Nat)
    (BB : Nat) (hBB : 2 * B + 40 ≤ BB) (rec_ : Rec l (d - 1) B c fun _ => True)
    (rg : List PV) (hr : RG l g zg t d rg) (at_ : Nat) (ha : at_ ≤ l.length) (lv : Nat → Bool) (tk : Nat) (n : Nat) :
    R T G [] [.pc q13_3] ⟨rg, ⟨dk l at_, lv, tk⟩⟩ (FQ [.c 8 5 true] false n (Made l g t BB)) := by
  obtain ⟨h1, h2, h3, h4, ⟨g6, h6⟩, ⟨g8, h8⟩⟩ := hr
  have d1 : 0 < d := hd.1
  have w1 : IntKind.i64.wrap (d - 1) = d - 1 := wrap_i64 (by omega)
  unfold q13_3
  cases t with
  | nat =>
    simp only [Ty.row, tyAll] at h6
    obtain ⟨r, a1, hr, ha1, hn⟩ := next36 l at_ 5 (by omega) ha hl
    have hx : r = 0 ∨ r = 1 ∨ r = 2 ∨ (r = 3 ∨ r = 4) := by omega
    rcases hx with rfl | rfl | rfl | hx
    · obtain ⟨x, a2, hx, hs, ha2, mx⟩ := rec_ g zg .nat a1 hz (by omega) hb (by decide) trivial ha1
      have m3 := n1 (dk l a2) 5 x
      simp only [Ty.row, tyAll, Tm.row, tmAll] at mx m3
      have u := clR.use hn
      have v := clR.use mx
      have w := clR.use m3
      simp only [wp0, wp1, wp2, wp3, wp4, wp5, Int.reduceAdd, Int.reduceEq, Int.reduceLE, Int.reduceLT, Int.reduceNeg, Int.reduceSub, Int.reduceToNat, Nat.reduceAdd, Nat.reduceDiv, Nat.reduceEqDiff, Nat.reduceLT, Nat.reduceLeDiff, Nat.reduceMod, Nat.reduceMul, Nat.reduceSub, eq_self, reduceIte, gs, List.length_set, h1, h2, h3, h4, h6, h8, d1, w1, u, v, w]
      exact ⟨.succ x, a2, .succ hx, by simp only [Tm.size]; omega, ha2, rfl, rfl⟩
    · obtain ⟨x, a2, hx, hs, ha2, mx⟩ := rec_ g zg .nat a1 hz (by omega) hb (by decide) trivial ha1
      obtain ⟨y, a3, hy, hys, ha3, my⟩ := rec_ g zg .nat a2 hz (by omega) hb (by decide) trivial ha2
      have m3 := app43 (dk l a3) plusTm x y
      have m4 := plus44 (dk l a1)
      simp only [Ty.row, tyAll, Tm.row, tmAll] at mx my m3
      simp only [Tm.row] at m4
      have u := clR.use hn
      have v := clR.use mx
      have v2 := clR.use my
      have w := clR.use m3
      have w2 := clR.use m4
      simp only [wp0, wp1, wp2, wp3, wp4, wp5, Int.reduceAdd, Int.reduceEq, Int.reduceLE, Int.reduceLT, Int.reduceNeg, Int.reduceSub, Int.reduceToNat, Nat.reduceAdd, Nat.reduceDiv, Nat.reduceEqDiff, Nat.reduceLT, Nat.reduceLeDiff, Nat.reduceMod, Nat.reduceMul, Nat.reduceSub, eq_self, reduceIte, gs, List.length_set, h1, h2, h3, h4, h6, h8, d1, w1, u, v, v2, w, w2]
      exact ⟨.app (.app plusTm x) y, a3, .app (.app (plus_ty g) hx (by decide)) hy (by decide), by simp only [Tm.size, plusTm]; omega, ha3, rfl, rfl⟩
    · obtain ⟨x, a2, hx, hs, ha2, mx⟩ := rec_ g zg .nat a1 hz (by omega) hb (by decide) trivial ha1
      obtain ⟨y, a3, hy, hys, ha3, my⟩ := rec_ g zg .nat a2 hz (by omega) hb (by decide) trivial ha2
      have m3 := app43 (dk l a3) subTm x y
      have m4 := sub45 (dk l a1)
      simp only [Ty.row, tyAll, Tm.row, tmAll] at mx my m3
      simp only [Tm.row] at m4
      have u := clR.use hn
      have v := clR.use mx
      have v2 := clR.use my
      have w := clR.use m3
      have w2 := clR.use m4
      simp only [wp0, wp1, wp2, wp3, wp4, wp5, Int.reduceAdd, Int.reduceEq, Int.reduceLE, Int.reduceLT, Int.reduceNeg, Int.reduceSub, Int.reduceToNat, Nat.reduceAdd, Nat.reduceDiv, Nat.reduceEqDiff, Nat.reduceLT, Nat.reduceLeDiff, Nat.reduceMod, Nat.reduceMul, Nat.reduceSub, eq_self, reduceIte, gs, List.length_set, h1, h2, h3, h4, h6, h8, d1, w1, u, v, v2, w, w2]
      exact ⟨.app (.app subTm x) y, a3, .app (.app (sub_ty g) hx (by decide)) hy (by decide), by simp only [Tm.size, subTm, predTm]; omega, ha3, rfl, rfl⟩
    · obtain ⟨r2, a2, hr2, ha2, hn2⟩ := next36 l a1 3 (by omega) ha1 hl
      obtain ⟨x, hxx, hs, hm⟩ := num42 (dk l a2) r2 hr2
      simp only [Tm.row, tmAll] at hm
      have u2 := clR.use hn2
      have v := clR.use hm
      rcases hx with rfl | rfl
      · have u := clR.use hn
        simp only [wp0, wp1, wp2, wp3, wp4, wp5, Int.reduceAdd, Int.reduceEq, Int.reduceLE, Int.reduceLT, Int.reduceNeg, Int.reduceSub, Int.reduceToNat, Nat.reduceAdd, Nat.reduceDiv, Nat.reduceEqDiff, Nat.reduceLT, Nat.reduceLeDiff, Nat.reduceMod, Nat.reduceMul, Nat.reduceSub, eq_self, reduceIte, gs, List.length_set, h1, h2, h3, h4, h6, h8, d1, u, u2, v]
        exact ⟨x, a2, hxx g, by omega, ha2, rfl, rfl⟩
      · have u := clR.use hn
        simp only [wp0, wp1, wp2, wp3, wp4, wp5, Int.reduceAdd, Int.reduceEq, Int.reduceLE, Int.reduceLT, Int.reduceNeg, Int.reduceSub, Int.reduceToNat, Nat.reduceAdd, Nat.reduceDiv, Nat.reduceEqDiff, Nat.reduceLT, Nat.reduceLeDiff, Nat.reduceMod, Nat.reduceMul, Nat.reduceSub, eq_self, reduceIte, gs, List.length_set, h1, h2, h3, h4, h6, h8, d1, u, u2, v]
        exact ⟨x, a2, hxx g, by omega, ha2, rfl, rfl⟩
  | list =>
    simp only [Ty.row, tyAll] at h6
    obtain ⟨r, a1, hr, ha1, hn⟩ := next36 l at_ 2 (by omega) ha hl
    have hx : r = 0 ∨ r = 1 := by omega
    rcases hx with rfl | rfl
    · obtain ⟨x, a2, hx, hs, ha2, mx⟩ := rec_ g zg .nat a1 hz (by omega) hb (by decide) trivial ha1
      obtain ⟨y, a3, hy, hys, ha3, my⟩ := rec_ g zg .list a2 hz (by omega) hb (by decide) trivial ha2
      have m3 := n2 (dk l a3) 8 x y
      have m4 := nat34 (dk l a1)
      simp only [Ty.row, tyAll, Tm.row, tmAll] at mx my m3 m4
      have u := clR.use hn
      have v := clR.use mx
      have v2 := clR.use my
      have w := clR.use m3
      have w2 := clR.use m4
      simp only [wp0, wp1, wp2, wp3, wp4, wp5, Int.reduceAdd, Int.reduceEq, Int.reduceLE, Int.reduceLT, Int.reduceNeg, Int.reduceSub, Int.reduceToNat, Nat.reduceAdd, Nat.reduceDiv, Nat.reduceEqDiff, Nat.reduceLT, Nat.reduceLeDiff, Nat.reduceMod, Nat.reduceMul, Nat.reduceSub, eq_self, reduceIte, gs, List.length_set, h1, h2, h3, h4, h6, h8, d1, w1, u, v, v2, w, w2]
      exact ⟨.cons x y, a3, .cons hx hy, by simp only [Tm.size]; omega, ha3, rfl, rfl⟩
    · have u := clR.use hn
      have v := clR.use (n0 (dk l a1) 7)
      simp only [wp0, wp1, wp2, wp3, wp4, wp5, Int.reduceAdd, Int.reduceEq, Int.reduceLE, Int.reduceLT, Int.reduceNeg, Int.reduceSub, Int.reduceToNat, Nat.reduceAdd, Nat.reduceDiv, Nat.reduceEqDiff, Nat.reduceLT, Nat.reduceLeDiff, Nat.reduceMod, Nat.reduceMul, Nat.reduceSub, eq_self, reduceIte, gs, List.length_set, h1, h2, h3, h4, h6, h8, d1, u, v]
      exact ⟨.nil, a1, .nil, by simp only [Tm.size]; omega, ha1, rfl, rfl⟩
  | unit =>
    have v := clR.use (n0 (dk l at_) 13)
    simp only [Ty.row, tyAll] at h6
    simp only [wp0, wp1, wp2, wp3, wp4, wp5, Int.reduceAdd, Int.reduceEq, Int.reduceLE, Int.reduceLT, Int.reduceNeg, Int.reduceSub, Int.reduceToNat, Nat.reduceAdd, Nat.reduceDiv, Nat.reduceEqDiff, Nat.reduceLT, Nat.reduceLeDiff, Nat.reduceMod, Nat.reduceMul, Nat.reduceSub, eq_self, reduceIte, gs, List.length_set, h1, h2, h3, h4, h6, h8, d1, w1, v]
    exact ⟨.unit, at_, .unit, by simp only [Tm.size]; omega, ha, rfl, rfl⟩
  | pair a b =>
    have hn : 1 + a.nodes + b.nodes ≤ 3 := ht
    have pa := a.nodes_pos
    have pb := b.nodes_pos
    try simp only [Ty.nodes] at hB
    obtain ⟨x, a1, hx, hxs, ha1, mx⟩ := rec_ g zg a at_ hz (by omega) hb (by omega) (by first | trivial | (simp only [Ty.nodes]; omega)) ha
    obtain ⟨y, a2, hy, hys, ha2, my⟩ := rec_ g zg b a1 hz (by omega) hb (by omega) (by first | trivial | (simp only [Ty.nodes]; omega)) ha1
    have m3 := n2 (dk l a2) 10 x y
    simp only [Ty.row, tyAll, Tm.row, tmAll] at mx my m3 h6
    have u := clR.use mx
    have v := clR.use my
    have w := clR.use m3
    simp only [wp0, wp1, wp2, wp3, wp4, wp5, Int.reduceAdd, Int.reduceEq, Int.reduceLE, Int.reduceLT, Int.reduceNeg, Int.reduceSub, Int.reduceToNat, Nat.reduceAdd, Nat.reduceDiv, Nat.reduceEqDiff, Nat.reduceLT, Nat.reduceLeDiff, Nat.reduceMod, Nat.reduceMul, Nat.reduceSub, eq_self, reduceIte, gs, List.length_set, h1, h2, h3, h4, h6, h8, d1, w1, u, v, w]
    exact ⟨.pair x y, a2, .pair hx hy (by simp only [Ty.nodes]; omega), by simp only [Tm.size]; omega, ha2, rfl, rfl⟩
  | fn a b =>
    have hn : 1 + a.nodes + b.nodes ≤ 3 := ht
    have pa := a.nodes_pos
    have pb := b.nodes_pos
    try simp only [Ty.nodes] at hB
    have m1 := longer41 g [a] zg 2 hz (fun _ => rfl) (by omega) (by simp) (dk l at_)
    obtain ⟨x, a1, hx, hxs, ha1, mx⟩ := rec_ (g ++ [a]) 2 b at_ (fun _ => rfl) (by simp; omega) (fun u hu => by rcases List.mem_append.1 hu with h | h; exact hb u h; obtain rfl := List.mem_singleton.1 h; omega) (by omega) (by first | trivial | (simp only [Ty.nodes]; omega)) ha
    have m3 := t1 (dk l a1) 2 x a
    simp only [Ty.row, tyAll, Tm.row, tmAll, List.map_append, List.map_cons, List.map_nil] at mx m1 m3 h6
    have u := clR.use mx
    have v := clR.use m1
    have w := clR.use m3
    simp only [wp0, wp1, wp2, wp3, wp4, wp5, Int.reduceAdd, Int.reduceEq, Int.reduceLE, Int.reduceLT, Int.reduceNeg, Int.reduceSub, Int.reduceToNat, Nat.reduceAdd, Nat.reduceDiv, Nat.reduceEqDiff, Nat.reduceLT, Nat.reduceLeDiff, Nat.reduceMod, Nat.reduceMul, Nat.reduceSub, eq_self, reduceIte, gs, List.length_set, h1, h2, h3, h4, h6, h8, d1, w1, u, v, w]
    exact ⟨.lam a x, a1, .lam hx (by simp only [Ty.nodes]; omega), by simp only [Tm.size]; omega, ha1, rfl, rfl⟩
end Go.Pi.Terms

set_option maxRecDepth 100000
set_option maxHeartbeats 1000000
set_option linter.unusedSimpArgs false
set_option linter.unusedVariables false
namespace Go.Pi.Terms
open Go Go.Pi Go.Proofs.YthgocgebpoeolaaDoor
variable [Inhabited DkT]
def b13_0 : PC := (.seq (.ops [⟨.bin .lss,[.s 177,.s 176],some 178,none,none⟩]) (.seq (.cond (.s 178) .skip (.exit 1)) (.seq (.block 2 (.seq (.ops [⟨.mv,[.s 177],some 179,none,none⟩,⟨.mv,[.s 179],some 15,none,none⟩]) (.seq (.ops [⟨.mv,[.s 1],some 180,none,none⟩,⟨.mv,[.s 1],some 181,none,none⟩,⟨.len,[.s 181],some 182,none,none⟩,⟨.bin .sub,[.s 182,.c (.v (.int .i64 1))],some 183,none,none⟩,⟨.mv,[.s 15],some 184,none,none⟩,⟨.bin .sub,[.s 183,.s 184],some 185,none,none⟩,⟨.ia 2,[.s 180,.s 185],some 186,none,none⟩,⟨.ldE 2 true,[.s 186],some 187,none,none⟩,⟨.alloc [.v (.int .i64 0),.sl 1 0 []],[],some 16,none,none⟩,⟨.stL 2,[.s 16,.s 187],none,some 16,none⟩]) (.seq (.ops [⟨.fa 0,[.s 16],some 188,none,none⟩,⟨.ldL 1 false,[.s 188],some 189,some 16,none⟩,⟨.bin .eql,[.s 189,.c (.v (.int .i64 4))],some 190,none,none⟩,⟨.mv,[.s 190],some 191,none,none⟩,⟨.fa 1,[.s 16],some 192,none,some (191,true)⟩,⟨.ldL 1 false,[.s 192],some 193,some 16,some (191,true)⟩,⟨.ia 2,[.s 193,.c (.v (.int .i64 1))],some 194,none,some (191,true)⟩,⟨.ldE 2 true,[.s 194],some 195,none,some (191,true)⟩,⟨.ldL 2 true,[.s 6],some 196,some 6,some (191,true)⟩,⟨.callF 11,[.s 195,.s 196],some 197,none,some (191,true)⟩,⟨.pick,[.s 191,.s 197,.c (.v (.bool false))],some 198,none,none⟩]) (.cond (.s 198) (.seq (.ops [⟨.mv,[.s 15],some 199,none,none⟩,⟨.callF 15,[.s 199],some 200,none,none⟩,⟨.mv,[.s 0],some 201,none,none⟩,⟨.mv,[.s 1],some 202,none,none⟩,⟨.fa 1,[.s 16],some 203,none,none⟩,⟨.ldL 1 false,[.s 203],some 204,some 16,none⟩,⟨.ia 2,[.s 204,.c (.v (.int .i64 0))],some 205,none,none⟩,⟨.ldE 2 true,[.s 205],some 206,none,none⟩,⟨.mv,[.s 3],some 207,none,none⟩,⟨.bin .sub,[.s 207,.c (.v (.int .i64 1))],some 208,none,none⟩,⟨.callF 24,[.s 201,.s 202,.s 206,.s 208],some 209,none,none⟩,⟨.bslice [.v (.int .i64 0),.v (.int .i64 0),.v (.int .i64 0),.sl 0 0 [],.sl 0 0 []] 2 5 [0,1],[.s 200,.s 209],some 210,none,none⟩,⟨.callF 17,[.c (.v (.int .i64 3)),.s 210],some 211,none,none⟩,⟨.stL 5,[.s 8,.s 211],none,some 8,none⟩]) .ret) .skip))))) (.ops [⟨.bin .add,[.s 177,.c (.v (.int .i64 1))],some 212,none,none⟩,⟨.mv,[.s 212],some 177,none,none⟩]))))
theorem ctx_loop (l : List Int) (hl : l.length ≤ 500) (g : List Ty) (zg : Nat) (hz : g ≠ [] → zg = 2) (c : Nat) (hc : c ≤ 900) (hg : g.length + 3 ≤ c) (hb : ∀ u ∈ g, u.nodes ≤ 3) (t : Ty) (ht : t.nodes ≤ 3) (d : Int) (hd : 0 < d ∧ d ≤ 100) (B BB : Nat) (hBB : B + 2 ≤ BB)
    (rec_ : Rec l (d - 1) B c fun _ => True) (k : List Fr) (n : Nat)
    (HK : ∀ (rg : List PV) (hr : RG l g zg t d rg) (at_ : Nat) (ha : at_ ≤ l.length) (lv : Nat → Bool) (tk : Nat), R T G [] k ⟨rg, ⟨dk l at_, lv, tk⟩⟩ (FQ [.c 8 5 true] false n (Made l g t BB))) :
    ∀ (m i : Nat) (rg : List PV) (at_ : Nat) (lv : Nat → Bool) (tk : Nat), i + m = g.length → RG l g zg t d rg → rg.getD 176 .un = i64 (g.length : Int) → rg.getD 177 .un = i64 (i : Int) → at_ ≤ l.length →
      R T G [] (.pc (.loop b13_0) :: .blk 1 :: k) ⟨rg, ⟨dk l at_, lv, tk⟩⟩ (FQ [.c 8 5 true] false n (Made l g t BB)) := by
  have w1 : IntKind.i64.wrap (d - 1) = d - 1 := wrap_i64 (by omega)
  intro m
  induction m with
  | zero =>
    intro i rg at_ lv tk hi hr h9 h10 ha
    obtain ⟨h1, h2, h3, h4, ⟨g6, h6⟩, ⟨g8, h8⟩⟩ := hr
    have hi' : i = g.length := by omega
    subst hi'
    rw [R.loop_eq]
    unfold b13_0
    simp only [wp0, wp1, wp2, wp3, wp4, wp5, Int.reduceAdd, Int.reduceEq, Int.reduceLE, Int.reduceLT, Int.reduceNeg, Int.reduceSub, Int.reduceToNat, Nat.reduceAdd, Nat.reduceDiv, Nat.reduceEqDiff, Nat.reduceLT, Nat.reduceLeDiff, Nat.reduceMod, Nat.reduceMul, Nat.reduceSub, eq_self, reduceIte, gs, List.length_set, h1, h9, h10, Int.lt_irrefl]
    refine HK _ ⟨?_, ?_, ?_, ?_, ⟨g6, ?_⟩, ⟨g8, ?_⟩⟩ at_ ha _ _
    all_goals simp only [gs, List.length_set, h1, h2, h3, h4, h6, h8, Nat.reduceEqDiff, false_and, if_false]
  | succ m ih =>
    intro i rg at_ lv tk hi hr h9 h10 ha
    obtain ⟨h1, h2, h3, h4, ⟨g6, h6⟩, ⟨g8, h8⟩⟩ := hr
    have hne : g ≠ [] := by intro e; subst e; simp at hi
    obtain rfl := hz hne
    have c1 : (i : Int) < (g.length : Int) := by omega
    have w2 : IntKind.i64.wrap ((g.length : Int) - 1) = (g.length : Int) - 1 := wrap_i64 (by omega)
    have w3 : IntKind.i64.wrap ((g.length : Int) - 1 - (i : Int)) = ((g.length - 1 - i : Nat) : Int) := by rw [wrap_i64 (by omega)]; omega
    have w4 : IntKind.i64.wrap ((i : Int) + 1) = ((i + 1 : Nat) : Int) := by rw [wrap_i64 (by omega)]; omega
    have c2 : ((g.length - 1 - i : Nat) : Int) < (g.length : Int) := by omega
    have c3 : (0 : Int) ≤ ((g.length - 1 - i : Nat) : Int) := by omega
    have c4 := getD_row g (i := g.length - 1 - i) (by omega)
    have hm : g.getD (g.length - 1 - i) .nat ∈ g := by
      rw [List.getD_eq_getElem?_getD, List.getElem?_eq_getElem (by omega)]
      exact List.getElem_mem _
    have hf3 := hb _ hm
    have u0 := True.intro
    rw [R.loop_eq]
    unfold b13_0
    cases hf : g.getD (g.length - 1 - i) .nat with
    | nat =>
      rw [hf] at c4
      simp only [Ty.row, tyAll] at c4
      simp only [wp0, wp1, wp2, wp3, wp4, wp5, Int.reduceAdd, Int.reduceEq, Int.reduceLE, Int.reduceLT, Int.reduceNeg, Int.reduceSub, Int.reduceToNat, Nat.reduceAdd, Nat.reduceDiv, Nat.reduceEqDiff, Nat.reduceLT, Nat.reduceLeDiff, Nat.reduceMod, Nat.reduceMul, Nat.reduceSub, eq_self, reduceIte, gs, List.length_set, List.length_map, h1, h2, h3, h4, h6, h8, h9, h10, c1, w2, w3, w4, c2, c3, c4, Int.toNat_natCast, u0]
      refine ih (i + 1) _ at_ _ _ (by omega) ⟨?_, ?_, ?_, ?_, ⟨g6, ?_⟩, ⟨g8, ?_⟩⟩ ?_ ?_ ha
      all_goals simp only [gs, List.length_set, h1, h2, h3, h4, h6, h8, h9, Nat.reduceEqDiff, false_and, if_false, Nat.reduceLT, and_self, if_true]
    | list =>
      rw [hf] at c4
      simp only [Ty.row, tyAll] at c4
      simp only [wp0, wp1, wp2, wp3, wp4, wp5, Int.reduceAdd, Int.reduceEq, Int.reduceLE, Int.reduceLT, Int.reduceNeg, Int.reduceSub, Int.reduceToNat, Nat.reduceAdd, Nat.reduceDiv, Nat.reduceEqDiff, Nat.reduceLT, Nat.reduceLeDiff, Nat.reduceMod, Nat.reduceMul, Nat.reduceSub, eq_self, reduceIte, gs, List.length_set, List.length_map, h1, h2, h3, h4, h6, h8, h9, h10, c1, w2, w3, w4, c2, c3, c4, Int.toNat_natCast, u0]
      refine ih (i + 1) _ at_ _ _ (by omega) ⟨?_, ?_, ?_, ?_, ⟨g6, ?_⟩, ⟨g8, ?_⟩⟩ ?_ ?_ ha
      all_goals simp only [gs, List.length_set, h1, h2, h3, h4, h6, h8, h9, Nat.reduceEqDiff, false_and, if_false, Nat.reduceLT, and_self, if_true]
    | unit =>
      rw [hf] at c4
      simp only [Ty.row, tyAll] at c4
      simp only [wp0, wp1, wp2, wp3, wp4, wp5, Int.reduceAdd, Int.reduceEq, Int.reduceLE, Int.reduceLT, Int.reduceNeg, Int.reduceSub, Int.reduceToNat, Nat.reduceAdd, Nat.reduceDiv, Nat.reduceEqDiff, Nat.reduceLT, Nat.reduceLeDiff, Nat.reduceMod, Nat.reduceMul, Nat.reduceSub, eq_self, reduceIte, gs, List.length_set, List.length_map, h1, h2, h3, h4, h6, h8, h9, h10, c1, w2, w3, w4, c2, c3, c4, Int.toNat_natCast, u0]
      refine ih (i + 1) _ at_ _ _ (by omega) ⟨?_, ?_, ?_, ?_, ⟨g6, ?_⟩, ⟨g8, ?_⟩⟩ ?_ ?_ ha
      all_goals simp only [gs, List.length_set, h1, h2, h3, h4, h6, h8, h9, Nat.reduceEqDiff, false_and, if_false, Nat.reduceLT, and_self, if_true]
    | pair a b =>
      rw [hf] at c4
      simp only [Ty.row, tyAll] at c4
      simp only [wp0, wp1, wp2, wp3, wp4, wp5, Int.reduceAdd, Int.reduceEq, Int.reduceLE, Int.reduceLT, Int.reduceNeg, Int.reduceSub, Int.reduceToNat, Nat.reduceAdd, Nat.reduceDiv, Nat.reduceEqDiff, Nat.reduceLT, Nat.reduceLeDiff, Nat.reduceMod, Nat.reduceMul, Nat.reduceSub, eq_self, reduceIte, gs, List.length_set, List.length_map, h1, h2, h3, h4, h6, h8, h9, h10, c1, w2, w3, w4, c2, c3, c4, Int.toNat_natCast, u0]
      refine ih (i + 1) _ at_ _ _ (by omega) ⟨?_, ?_, ?_, ?_, ⟨g6, ?_⟩, ⟨g8, ?_⟩⟩ ?_ ?_ ha
      all_goals simp only [gs, List.length_set, h1, h2, h3, h4, h6, h8, h9, Nat.reduceEqDiff, false_and, if_false, Nat.reduceLT, and_self, if_true]
    | fn a b =>
      rw [hf] at c4 hf3
      have hf3' : 1 + a.nodes + b.nodes ≤ 3 := hf3
      have pb := b.nodes_pos
      have m1 := same15 (dk l at_) b t
      simp only [Ty.row, tyAll] at c4 m1
      have v1 := clR.use m1
      by_cases hbt : b = t
      · have e : decide (b = t) = true := decide_eq_true hbt
        obtain ⟨x, a2, hx, ex, ha2, mx⟩ := rec_ g 2 a at_ hz (by omega) hb (by omega) trivial ha
        have m2 := var18 (dk l at_) i
        have m3 := n2 (dk l a2) 3 (.var i) x
        simp only [Ty.row, tyAll, Tm.row, tmAll] at mx m2 m3
        have v2 := clR.use mx
        have v3 := clR.use m2
        have v4 := clR.use m3
        simp only [wp0, wp1, wp2, wp3, wp4, wp5, Int.reduceAdd, Int.reduceEq, Int.reduceLE, Int.reduceLT, Int.reduceNeg, Int.reduceSub, Int.reduceToNat, Nat.reduceAdd, Nat.reduceDiv, Nat.reduceEqDiff, Nat.reduceLT, Nat.reduceLeDiff, Nat.reduceMod, Nat.reduceMul, Nat.reduceSub, eq_self, reduceIte, gs, List.length_set, List.length_map, h1, h2, h3, h4, h6, h8, h9, h10, c1, w1, w2, w3, w4, c2, c3, c4, Int.toNat_natCast, v1, v2, v3, v4, e]
        refine ⟨.app (.var i) x, a2, .app (.v (by omega) hf) hx (by simp only [Ty.nodes]; omega), by simp only [Tm.size]; omega, ha2, rfl, rfl⟩ |> fun h => hbt ▸ h
      · have e : decide (b = t) = false := decide_eq_false hbt
        simp only [wp0, wp1, wp2, wp3, wp4, wp5, Int.reduceAdd, Int.reduceEq, Int.reduceLE, Int.reduceLT, Int.reduceNeg, Int.reduceSub, Int.reduceToNat, Nat.reduceAdd, Nat.reduceDiv, Nat.reduceEqDiff, Nat.reduceLT, Nat.reduceLeDiff, Nat.reduceMod, Nat.reduceMul, Nat.reduceSub, eq_self, reduceIte, gs, List.length_set, List.length_map, h1, h2, h3, h4, h6, h8, h9, h10, c1, w2, w3, w4, c2, c3, c4, Int.toNat_natCast, v1, e]
        refine ih (i + 1) _ at_ _ _ (by omega) ⟨?_, ?_, ?_, ?_, ⟨g6, ?_⟩, ⟨g8, ?_⟩⟩ ?_ ?_ ha
        all_goals simp only [gs, List.length_set, h1, h2, h3, h4, h6, h8, h9, Nat.reduceEqDiff, false_and, if_false, Nat.reduceLT, and_self, if_true]

/-- The phase of mk.Term with depth left. -/
theorem term_depth (l : List Int) (hl : l.length ≤ 500) (g : List Ty) (zg : Nat) (hz : g ≠ [] → zg = 2) (c : Nat) (hc : c ≤ 900) (hg : g.length + 3 ≤ c) (hb : ∀ u ∈ g, u.nodes ≤ 3) (t : Ty) (ht : t.nodes ≤ 3) (d : Int) (hd : 0 < d ∧ d ≤ 100) (B : Nat)
    (rec_ : Rec l (d - 1) B c fun _ => True)
    (rg : List PV) (hr : RG l g zg t d rg) (at_ : Nat) (ha : at_ ≤ l.length) (lv : Nat → Bool) (tk : Nat) (n : Nat) :
    R T G [] [.pc q13_2] ⟨rg, ⟨dk l at_, lv, tk⟩⟩ (FQ [.c 8 5 true] false n (Made l g t (3 * B + 40))) := by
  have HK : ∀ (rg : List PV) (hr : RG l g zg t d rg) (at_ : Nat) (ha : at_ ≤ l.length) (lv : Nat → Bool) (tk : Nat), R T G [] [.pc q13_3] ⟨rg, ⟨dk l at_, lv, tk⟩⟩ (FQ [.c 8 5 true] false n (Made l g t (3 * B + 40))) := by
    intro rg hr at_ ha lv tk
    exact term_kind l hl g zg hz c hc hg hb t ht d hd B _ (by omega) rec_ rg hr at_ ha lv tk n
  have hr0 := hr
  obtain ⟨h1, h2, h3, h4, ⟨g6, h6⟩, ⟨g8, h8⟩⟩ := hr
  have d1 : 0 < d := hd.1
  have w1 : IntKind.i64.wrap (d - 1) = d - 1 := wrap_i64 (by omega)
  unfold q13_2
  obtain ⟨r, a1, hr, ha1, hn⟩ := next36 l at_ 8 (by omega) ha hl
  have one : ∀ s : Ty, ∀ u ∈ g ++ [s], s.nodes ≤ 3 → u.nodes ≤ 3 := fun s u hu hs => by
    rcases List.mem_append.1 hu with h | h
    · exact hb u h
    · obtain rfl := List.mem_singleton.1 h; exact hs
  have hx : r = 0 ∨ r = 1 ∨ r = 2 ∨ r = 3 ∨ r = 4 ∨ r = 5 ∨ r = 6 ∨ r = 7 := by omega
  rcases hx with rfl | rfl | rfl | rfl | rfl | rfl | rfl | rfl
  · obtain ⟨s, a2, hs, ha2, ms⟩ := type12 l hl 0 a1 (by omega) ha1
    have hs1 : s.nodes ≤ 1 := by omega
    have m1 := longer41 g [s] zg 2 hz (fun _ => rfl) (by omega) (by simp) (dk l a2)
    obtain ⟨x, a3, hx, ex, ha3, mx⟩ := rec_ (g ++ [s]) 2 t a2 (fun _ => rfl) (by simp; omega) (fun u hu => one s u hu (by omega)) (by first | omega | decide) trivial ha2
    have m2 := t1 (dk l a3) 2 x s
    obtain ⟨y, a4, hy, ey, ha4, my⟩ := rec_ g zg s a3 hz (by omega) hb (by first | omega | decide) trivial ha3
    have m3 := n2 (dk l a4) 3 (.lam s x) y
    simp only [Ty.row, tyAll, Tm.row, tmAll, List.map_append, List.map_cons, List.map_nil, Int.cast_ofNat_Int] at ms m1 mx m2 my m3
    have hn' := clR.use hn
    have ms' := clR.use ms
    have m1' := clR.use m1
    have mx' := clR.use mx
    have m2' := clR.use m2
    have my' := clR.use my
    have m3' := clR.use m3
    simp only [wp0, wp1, wp2, wp3, wp4, wp5, Int.reduceAdd, Int.reduceEq, Int.reduceLE, Int.reduceLT, Int.reduceNeg, Int.reduceSub, Int.reduceToNat, Nat.reduceAdd, Nat.reduceDiv, Nat.reduceEqDiff, Nat.reduceLT, Nat.reduceLeDiff, Nat.reduceMod, Nat.reduceMul, Nat.reduceSub, eq_self, reduceIte, gs, List.length_set, h1, h2, h3, h4, h6, h8, d1, w1, hn', ms', m1', mx', m2', my', m3']
    exact ⟨.app (.lam s x) y, a4, .app (.lam hx (by simp only [Ty.nodes]; omega)) hy (by simp only [Ty.nodes]; omega), by simp only [Tm.size]; omega, ha4, rfl, rfl⟩
  · obtain ⟨s, a2, hs, ha2, ms⟩ := type12 l hl 0 a1 (by omega) ha1
    have hs1 : s.nodes ≤ 1 := by omega
    obtain ⟨x, a3, hx, ex, ha3, mx⟩ := rec_ g zg t a2 hz (by omega) hb (by first | omega | decide) trivial ha2
    obtain ⟨y, a4, hy, ey, ha4, my⟩ := rec_ g zg s a3 hz (by omega) hb (by first | omega | decide) trivial ha3
    have m3 := n2 (dk l a4) 10 x y
    have m4 := n1 (dk l a4) 11 (.pair x y)
    simp only [Ty.row, tyAll, Tm.row, tmAll, List.map_append, List.map_cons, List.map_nil, Int.cast_ofNat_Int] at ms mx my m3 m4
    have hn' := clR.use hn
    have ms' := clR.use ms
    have mx' := clR.use mx
    have my' := clR.use my
    have m3' := clR.use m3
    have m4' := clR.use m4
    simp only [wp0, wp1, wp2, wp3, wp4, wp5, Int.reduceAdd, Int.reduceEq, Int.reduceLE, Int.reduceLT, Int.reduceNeg, Int.reduceSub, Int.reduceToNat, Nat.reduceAdd, Nat.reduceDiv, Nat.reduceEqDiff, Nat.reduceLT, Nat.reduceLeDiff, Nat.reduceMod, Nat.reduceMul, Nat.reduceSub, eq_self, reduceIte, gs, List.length_set, h1, h2, h3, h4, h6, h8, d1, w1, hn', ms', mx', my', m3', m4']
    exact ⟨.fst (.pair x y), a4, .fst (.pair hx hy (by simp only [Ty.nodes]; omega)) (by simp only [Ty.nodes]; omega), by simp only [Tm.size]; omega, ha4, rfl, rfl⟩
  · have p1 := nat34 (dk l a1)
    have m1 := longer41 g [.nat, t] zg 2 hz (fun _ => rfl) (by omega) (by simp) (dk l a1)
    obtain ⟨x, a2, hx, ex, ha2, mx⟩ := rec_ (g ++ [.nat, t]) 2 t a1 (fun _ => rfl) (by simp; omega) (fun u hu => by rcases List.mem_append.1 hu with h | h; exact hb u h; simp at h; rcases h with rfl | rfl; decide; exact ht) (by first | omega | decide) trivial ha1
    have m2 := t1 (dk l a2) 2 x t
    have m3 := t1 (dk l a2) 2 (.lam t x) .nat
    obtain ⟨y, a3, hy, ey, ha3, my⟩ := rec_ g zg t a2 hz (by omega) hb (by first | omega | decide) trivial ha2
    obtain ⟨r2, a4, hr2, ha4, hn2⟩ := next36 l a3 3 (by omega) ha3 hl
    obtain ⟨z, hz2, bz, mz⟩ := num42 (dk l a4) r2 hr2
    have m4 := t3 (dk l a4) 6 y (.lam .nat (.lam t x)) z t
    simp only [Ty.row, tyAll, Tm.row, tmAll, List.map_append, List.map_cons, List.map_nil, Int.cast_ofNat_Int] at p1 m1 mx m2 m3 my mz m4
    have hn' := clR.use hn
    have p1' := clR.use p1
    have m1' := clR.use m1
    have mx' := clR.use mx
    have m2' := clR.use m2
    have m3' := clR.use m3
    have my' := clR.use my
    have hn2' := clR.use hn2
    have mz' := clR.use mz
    have m4' := clR.use m4
    simp only [wp0, wp1, wp2, wp3, wp4, wp5, Int.reduceAdd, Int.reduceEq, Int.reduceLE, Int.reduceLT, Int.reduceNeg, Int.reduceSub, Int.reduceToNat, Nat.reduceAdd, Nat.reduceDiv, Nat.reduceEqDiff, Nat.reduceLT, Nat.reduceLeDiff, Nat.reduceMod, Nat.reduceMul, Nat.reduceSub, eq_self, reduceIte, gs, List.length_set, h1, h2, h3, h4, h6, h8, d1, w1, hn', p1', m1', mx', m2', m3', my', hn2', mz', m4']
    exact ⟨.recu t y (.lam .nat (.lam t x)) z, a4, .recu hy (.lam (.lam (by simpa using hx) (by simp only [Ty.nodes]; omega)) (by simp only [Ty.nodes]; omega)) (hz2 g) (by omega), by simp only [Tm.size]; omega, ha4, rfl, rfl⟩
  · have p1 := nat34 (dk l a1)
    have p2 := list37 (dk l a1)
    have m1 := longer41 g [.nat, .list, t] zg 2 hz (fun _ => rfl) (by omega) (by simp) (dk l a1)
    obtain ⟨x, a2, hx, ex, ha2, mx⟩ := rec_ (g ++ [.nat, .list, t]) 2 t a1 (fun _ => rfl) (by simp; omega) (fun u hu => by rcases List.mem_append.1 hu with h | h; exact hb u h; simp at h; rcases h with rfl | rfl | rfl; decide; decide; exact ht) (by first | omega | decide) trivial ha1
    have m2 := t1 (dk l a2) 2 x t
    have m3 := t1 (dk l a2) 2 (.lam t x) .list
    have m5 := t1 (dk l a2) 2 (.lam .list (.lam t x)) .nat
    obtain ⟨y, a3, hy, ey, ha3, my⟩ := rec_ g zg t a2 hz (by omega) hb (by first | omega | decide) trivial ha2
    have p3 := list37 (dk l a3)
    obtain ⟨q, a4, hq, eq, ha4, mq⟩ := rec_ g zg .list a3 hz (by omega) hb (by first | omega | decide) trivial ha3
    have m4 := t3 (dk l a4) 9 y (.lam .nat (.lam .list (.lam t x))) q t
    simp only [Ty.row, tyAll, Tm.row, tmAll, List.map_append, List.map_cons, List.map_nil, Int.cast_ofNat_Int] at p1 p2 m1 mx m2 m3 m5 my p3 mq m4
    have hn' := clR.use hn
    have p1' := clR.use p1
    have p2' := clR.use p2
    have m1' := clR.use m1
    have mx' := clR.use mx
    have m2' := clR.use m2
    have m3' := clR.use m3
    have m5' := clR.use m5
    have my' := clR.use my
    have p3' := clR.use p3
    have mq' := clR.use mq
    have m4' := clR.use m4
    simp only [wp0, wp1, wp2, wp3, wp4, wp5, Int.reduceAdd, Int.reduceEq, Int.reduceLE, Int.reduceLT, Int.reduceNeg, Int.reduceSub, Int.reduceToNat, Nat.reduceAdd, Nat.reduceDiv, Nat.reduceEqDiff, Nat.reduceLT, Nat.reduceLeDiff, Nat.reduceMod, Nat.reduceMul, Nat.reduceSub, eq_self, reduceIte, gs, List.length_set, h1, h2, h3, h4, h6, h8, d1, w1, hn', p1', p2', m1', mx', m2', m3', m5', my', p3', mq', m4']
    exact ⟨.fold t y (.lam .nat (.lam .list (.lam t x))) q, a4, .fold hy (.lam (.lam (.lam (by simpa using hx) (by simp only [Ty.nodes]; omega)) (by simp only [Ty.nodes]; omega)) (by simp only [Ty.nodes]; omega)) hq (by omega), by simp only [Tm.size]; omega, ha4, rfl, rfl⟩
  · obtain ⟨s, a2, hs, ha2, ms⟩ := type12 l hl 0 a1 (by omega) ha1
    have hs1 : s.nodes ≤ 1 := by omega
    obtain ⟨x, a3, hx, ex, ha3, mx⟩ := rec_ g zg s a2 hz (by omega) hb (by first | omega | decide) trivial ha2
    obtain ⟨y, a4, hy, ey, ha4, my⟩ := rec_ g zg t a3 hz (by omega) hb (by first | omega | decide) trivial ha3
    have m3 := n2 (dk l a4) 10 x y
    have m4 := n1 (dk l a4) 12 (.pair x y)
    simp only [Ty.row, tyAll, Tm.row, tmAll, List.map_append, List.map_cons, List.map_nil, Int.cast_ofNat_Int] at ms mx my m3 m4
    have hn' := clR.use hn
    have ms' := clR.use ms
    have mx' := clR.use mx
    have my' := clR.use my
    have m3' := clR.use m3
    have m4' := clR.use m4
    simp only [wp0, wp1, wp2, wp3, wp4, wp5, Int.reduceAdd, Int.reduceEq, Int.reduceLE, Int.reduceLT, Int.reduceNeg, Int.reduceSub, Int.reduceToNat, Nat.reduceAdd, Nat.reduceDiv, Nat.reduceEqDiff, Nat.reduceLT, Nat.reduceLeDiff, Nat.reduceMod, Nat.reduceMul, Nat.reduceSub, eq_self, reduceIte, gs, List.length_set, h1, h2, h3, h4, h6, h8, d1, w1, hn', ms', mx', my', m3', m4']
    exact ⟨.snd (.pair x y), a4, .snd (.pair hx hy (by simp only [Ty.nodes]; omega)) (by simp only [Ty.nodes]; omega), by simp only [Tm.size]; omega, ha4, rfl, rfl⟩
  · have u := clR.use hn
    simp only [wp0, wp1, wp2, wp3, wp4, wp5, Int.reduceAdd, Int.reduceEq, Int.reduceLE, Int.reduceLT, Int.reduceNeg, Int.reduceSub, Int.reduceToNat, Nat.reduceAdd, Nat.reduceDiv, Nat.reduceEqDiff, Nat.reduceLT, Nat.reduceLeDiff, Nat.reduceMod, Nat.reduceMul, Nat.reduceSub, eq_self, reduceIte, gs, List.length_set, List.length_map, h1, h2, h3, h4, h6, h8, d1, u]
    refine ctx_loop l hl g zg hz c hc hg hb t ht d hd B _ (by omega) rec_ _ n ?_ g.length 0 _ a1 _ _ (by omega) ⟨?_, ?_, ?_, ?_, ⟨g6, ?_⟩, ⟨g8, ?_⟩⟩ ?_ ?_ ha1
    · intro rg hr at_ ha lv tk
      simp only [R.blk]
      exact HK rg hr at_ ha lv tk
    all_goals simp only [gs, List.length_set, h1, h2, h3, h4, h6, h8, Nat.reduceEqDiff, false_and, if_false, Nat.reduceLT, and_self, if_true, Int.cast_ofNat_Int]
  · have u := clR.use hn
    simp only [wp0, wp1, wp2, wp3, wp4, wp5, Int.reduceAdd, Int.reduceEq, Int.reduceLE, Int.reduceLT, Int.reduceNeg, Int.reduceSub, Int.reduceToNat, Nat.reduceAdd, Nat.reduceDiv, Nat.reduceEqDiff, Nat.reduceLT, Nat.reduceLeDiff, Nat.reduceMod, Nat.reduceMul, Nat.reduceSub, eq_self, reduceIte, gs, List.length_set, h1, h2, h3, h4, h6, h8, d1, u]
    refine HK _ ⟨?_, ?_, ?_, ?_, ⟨g6, ?_⟩, ⟨g8, ?_⟩⟩ a1 ha1 _ _
    all_goals simp only [gs, List.length_set, h1, h2, h3, h4, h6, h8, Nat.reduceEqDiff, false_and, if_false]
  · have u := clR.use hn
    simp only [wp0, wp1, wp2, wp3, wp4, wp5, Int.reduceAdd, Int.reduceEq, Int.reduceLE, Int.reduceLT, Int.reduceNeg, Int.reduceSub, Int.reduceToNat, Nat.reduceAdd, Nat.reduceDiv, Nat.reduceEqDiff, Nat.reduceLT, Nat.reduceLeDiff, Nat.reduceMod, Nat.reduceMul, Nat.reduceSub, eq_self, reduceIte, gs, List.length_set, h1, h2, h3, h4, h6, h8, d1, u]
    refine HK _ ⟨?_, ?_, ?_, ?_, ⟨g6, ?_⟩, ⟨g8, ?_⟩⟩ a1 ha1 _ _
    all_goals simp only [gs, List.length_set, h1, h2, h3, h4, h6, h8, Nat.reduceEqDiff, false_and, if_false]
end Go.Pi.Terms

set_option maxRecDepth 100000
set_option maxHeartbeats 1000000
set_option linter.unusedSimpArgs false
set_option linter.unusedVariables false
namespace Go.Pi.Terms
open Go Go.Pi Go.Proofs.YthgocgebpoeolaaDoor
variable [Inhabited DkT]
/-- The first phase of mk.Term. -/
theorem term_start (l : List Int) (hl : l.length ≤ 500) (g : List Ty) (zg : Nat) (hz : g ≠ [] → zg = 2) (hg : g.length ≤ 900) (t : Ty) (d : Int) (BB : Nat) (hBB : 1 ≤ BB)
    (HK : ∀ (rg : List PV) (hr : RG l g zg t d rg) (at_ : Nat) (ha : at_ ≤ l.length) (lv : Nat → Bool) (tk n : Nat), R T G [] [.pc q13_2] ⟨rg, ⟨dk l at_, lv, tk⟩⟩ (FQ [.c 8 5 true] false n (Made l g t BB))) (at_ : Nat) (ha : at_ ≤ l.length) :
    ∃ (x : Tm) (at' : Nat), HasTy g x t ∧ x.size ≤ BB ∧ at' ≤ l.length ∧ ∃ n, callN T G n 24 [.sp mm 0, .sl 0 zg (g.map Ty.row), .ag t.row, i64 d] (dk l at_) = some (.ag x.row, dk l at') := by
  have key : Runs T G 24 [.sp mm 0, .sl 0 zg (g.map Ty.row), .ag t.row, i64 d] (dk l at_) (Made l g t BB) := by
    refine run_of (pf := p24) rfl ?_
    obtain ⟨is, z, hz1, hl1, hj, mv⟩ := vars40 g t zg hz (by omega) (dk l at_)
    simp only [Ty.row, tyAll] at mv
    have v := clR.use mv
    obtain ⟨rg, hrg⟩ : ∃ rg : List PV, rg = [PV.sp mm 0, .sl 0 zg (g.map Ty.row), .ag t.row, i64 d] ++ List.replicate 334 .un := ⟨_, rfl⟩
    have e0 : startSt p24.nt [.sp mm 0, .sl 0 zg (g.map Ty.row), .ag t.row, i64 d] (dk l at_) = ⟨rg, ⟨dk l at_, fun _ => false, 2⟩⟩ := by rw [hrg]; rfl
    have h1 : rg.length = 338 := by rw [hrg]; rfl
    have h2 : rg.getD 0 .un = .sp mm 0 := by rw [hrg]; rfl
    have h3 : rg.getD 1 .un = .sl 0 zg (g.map Ty.row) := by rw [hrg]; rfl
    have h4 : rg.getD 3 .un = i64 d := by rw [hrg]; rfl
    have h5 : rg.getD 2 .un = .ag [i64 t.kind, .sl 0 t.asz t.arows] := by rw [hrg]; rfl
    rw [e0]
    show R T G [] [.pc (.seq _ (.seq _ (.seq _ q13_2)))] _ (FQ [.c 8 5 true] false _ _)
    by_cases he : is = []
    · subst he
      simp only [wp0, wp1, wp2, wp3, wp4, wp5, Int.reduceAdd, Int.reduceEq, Int.reduceLE, Int.reduceLT, Int.reduceNeg, Int.reduceSub, Int.reduceToNat, Nat.reduceAdd, Nat.reduceDiv, Nat.reduceEqDiff, Nat.reduceLT, Nat.reduceLeDiff, Nat.reduceMod, Nat.reduceMul, Nat.reduceSub, eq_self, reduceIte, gs, List.length_set, h1, h2, h3, h4, h5, v]
      refine HK _ ⟨?_, ?_, ?_, ?_, ⟨(rg.getD 6 .un).genOf + 1, ?_⟩, ⟨(rg.getD 8 .un).genOf + 1, ?_⟩⟩ at_ ha _ _ _
      all_goals simp only [gs, List.length_set, h1, h2, h3, h4, Nat.reduceEqDiff, false_and, if_false, Nat.reduceLT, and_self, if_true]
    · obtain rfl := hz1 he
      obtain ⟨r, a1, hr, ha1, hn⟩ := next36 l at_ 3 (by omega) ha hl
      have hlen : 0 < is.length := List.length_pos_iff.2 he
      have c1 : (0 : Int) < (is.length : Int) := by omega
      have u := clR.use hn
      by_cases hr0 : 0 < r
      · obtain ⟨r2, a2, hr2, ha2, hn2⟩ := next36 l a1 (is.length : Int) (by omega) ha1 hl
        obtain ⟨j, rfl⟩ : ∃ j : Nat, r2 = (j : Int) := ⟨r2.toNat, by omega⟩
        have hjl : j < is.length := by omega
        have c2 : (j : Int) < (is.length : Int) := by omega
        have c3 : (0 : Int) ≤ (j : Int) := by omega
        have c4 : (is.map fun j : Nat => [i64 (j : Int)]).getD j [] = [i64 ((is.getD j 0 : Nat) : Int)] := by simp [List.getD_eq_getElem?_getD, hjl]
        have hm : is.getD j 0 ∈ is := by
          rw [List.getD_eq_getElem?_getD, List.getElem?_eq_getElem hjl]
          exact List.getElem_mem _
        have m2 := var18 (dk l a2) (is.getD j 0)
        simp only [Tm.row, tmAll] at m2
        have u2 := clR.use hn2
        have u3 := clR.use m2
        simp only [wp0, wp1, wp2, wp3, wp4, wp5, Int.reduceAdd, Int.reduceEq, Int.reduceLE, Int.reduceLT, Int.reduceNeg, Int.reduceSub, Int.reduceToNat, Nat.reduceAdd, Nat.reduceDiv, Nat.reduceEqDiff, Nat.reduceLT, Nat.reduceLeDiff, Nat.reduceMod, Nat.reduceMul, Nat.reduceSub, eq_self, reduceIte, gs, List.length_set, List.length_map, h1, h2, h3, h4, h5, v, u, u2, u3, c1, c2, c3, c4, hr0, Int.toNat_natCast]
        exact ⟨.var (is.getD j 0), a2, .v (hj _ hm).1 (hj _ hm).2, by simp only [Tm.size]; omega, ha2, rfl, rfl⟩
      · simp only [wp0, wp1, wp2, wp3, wp4, wp5, Int.reduceAdd, Int.reduceEq, Int.reduceLE, Int.reduceLT, Int.reduceNeg, Int.reduceSub, Int.reduceToNat, Nat.reduceAdd, Nat.reduceDiv, Nat.reduceEqDiff, Nat.reduceLT, Nat.reduceLeDiff, Nat.reduceMod, Nat.reduceMul, Nat.reduceSub, eq_self, reduceIte, gs, List.length_set, List.length_map, h1, h2, h3, h4, h5, v, u, c1, hr0]
        refine HK _ ⟨?_, ?_, ?_, ?_, ⟨(rg.getD 6 .un).genOf + 1, ?_⟩, ⟨(rg.getD 8 .un).genOf + 1, ?_⟩⟩ a1 ha1 _ _ _
        all_goals simp only [gs, List.length_set, h1, h2, h3, h4, Nat.reduceEqDiff, false_and, if_false, Nat.reduceLT, and_self, if_true]
  obtain ⟨n, r, s', h, x, at', h1, h2, h3, rfl, rfl⟩ := key
  exact ⟨x, at', h1, h2, h3, n, h⟩

/-- No depth left: the middle phase is passed over. -/
theorem term_none (l : List Int) (g : List Ty) (zg : Nat) (t : Ty) (d : Int) (hd : d ≤ 0) (rg : List PV) (hr : RG l g zg t d rg) (at_ : Nat) (lv : Nat → Bool) (tk : Nat) (Q : Out → Prop)
    (HK : ∀ (rg : List PV) (hr : RG l g zg t d rg), R T G [] [.pc q13_3] ⟨rg, ⟨dk l at_, lv, tk⟩⟩ Q) : R T G [] [.pc q13_2] ⟨rg, ⟨dk l at_, lv, tk⟩⟩ Q := by
  obtain ⟨h1, h2, h3, h4, ⟨g6, h6⟩, ⟨g8, h8⟩⟩ := hr
  have d1 : ¬ (0 < d) := by omega
  unfold q13_2
  simp only [wp0, wp1, wp2, wp3, wp4, wp5, Int.reduceAdd, Int.reduceEq, Int.reduceLE, Int.reduceLT, Int.reduceNeg, Int.reduceSub, Int.reduceToNat, Nat.reduceAdd, Nat.reduceDiv, Nat.reduceEqDiff, Nat.reduceLT, Nat.reduceLeDiff, Nat.reduceMod, Nat.reduceMul, Nat.reduceSub, eq_self, reduceIte, gs, List.length_set, h1, h2, h3, h4, h6, h8, d1]
  refine HK _ ⟨?_, ?_, ?_, ?_, ⟨g6, ?_⟩, ⟨g8, ?_⟩⟩
  all_goals simp only [gs, List.length_set, h1, h2, h3, h4, h6, h8, Nat.reduceEqDiff, false_and, if_false, Nat.reduceLT, and_self, if_true]

theorem rec_small (l : List Int) (hl : l.length ≤ 500) (d : Int) (hd : d ≤ 0 ∧ -900 ≤ d) : Rec l d 3 890 fun u => u.nodes ≤ 2 := by
  intro g zg t at_ hz hg hb ht hp ha
  refine term_start l hl g zg hz (by omega) t d 3 (by omega) (fun rg hr at_ ha lv tk n => term_none l g zg t d hd.1 rg hr at_ lv tk _ fun rg hr => ?_) at_ ha
  refine term_low l hl g zg hz 900 (by omega) (by omega) hb t ht d (by omega) 3 (by omega) ?_ rg hr at_ ha lv tk n
  intro g2 zg2 u at2 _ _ _ _ hu _
  have := u.nodes_pos
  have h2 : t.nodes = 2 := by omega
  cases t with
  | pair a b => have := a.nodes_pos; have := b.nodes_pos; simp only [Ty.nodes] at h2; omega
  | fn a b => have := a.nodes_pos; have := b.nodes_pos; simp only [Ty.nodes] at h2; omega
  | _ => simp only [Ty.nodes] at h2; omega

theorem rec_zero (l : List Int) (hl : l.length ≤ 500) : Rec l 0 7 880 fun _ => True := by
  intro g zg t at_ hz hg hb ht hp ha
  refine term_start l hl g zg hz (by omega) t 0 7 (by omega) (fun rg hr at_ ha lv tk n => term_none l g zg t 0 (by omega) rg hr at_ lv tk _ fun rg hr => ?_) at_ ha
  refine term_low l hl g zg hz 890 (by omega) (by omega) hb t ht 0 (by omega) 7 (by omega) ?_ rg hr at_ ha lv tk n
  intro g2 zg2 u at2 q1 q2 q3 q4 hu q5
  exact rec_small l hl _ (by omega) g2 zg2 u at2 q1 q2 q3 q4 (show u.nodes ≤ 2 by omega) q5

theorem rec_succ (l : List Int) (hl : l.length ≤ 500) (d : Int) (hd : 0 < d ∧ d ≤ 100) (B c : Nat) (hc : 3 ≤ c ∧ c ≤ 900) (h : Rec l (d - 1) B c fun _ => True) : Rec l d (3 * B + 40) (c - 3) fun _ => True := by
  intro g zg t at_ hz hg hb ht hp ha
  exact term_start l hl g zg hz (by omega) t d (3 * B + 40) (by omega) (fun rg hr at_ ha lv tk n => term_depth l hl g zg hz c hc.2 (by omega) hb t ht d hd B h rg hr at_ ha lv tk n) at_ ha

theorem rec_one (l : List Int) (hl : l.length ≤ 500) : Rec l 1 61 877 fun _ => True := rec_succ l hl 1 (by omega) 7 880 (by omega) (rec_zero l hl)
theorem rec_two (l : List Int) (hl : l.length ≤ 500) : Rec l 2 223 874 fun _ => True := rec_succ l hl 2 (by omega) 61 877 (by omega) (rec_one l hl)
theorem rec_three (l : List Int) (hl : l.length ≤ 500) : Rec l 3 709 871 fun _ => True := rec_succ l hl 3 (by omega) 223 874 (by omega) (rec_two l hl)
end Go.Pi.Terms
