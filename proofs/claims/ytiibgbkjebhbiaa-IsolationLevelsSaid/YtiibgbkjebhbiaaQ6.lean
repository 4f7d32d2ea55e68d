/-
  The functions of this program: the tape, valid histories, versions.
  Part of a proof about the program's own text; written by an AI agent. No statement is proved here: the lemmas that the last text needs.
-/
import Derived.Test.YtiibgbkjebhbiaaQ5
import Derived.Test.YtiibgbkjebhbiaaProg
set_option maxRecDepth 100000
namespace Qa.S43
open Go Go.Proofs
def T : Qa.Ty := fun t =>
 match Nat.blt t 169 with
 | false => ⟨.bad, 0, [], 0⟩
 | true =>
   match Nat.ble t 83 with
   | true => match Nat.ble t 41 with
    | true => match Nat.ble t 20 with
     | true => match Nat.ble t 9 with
      | true => match Nat.ble t 4 with
       | true => match Nat.ble t 1 with
        | true => match Nat.ble t 0 with
         | true => ⟨.bad, 0, [], 0⟩
         | false => ⟨.func, 1, [.nilfn], 0⟩
        | false => match Nat.ble t 2 with
         | true => ⟨.int .i64, 1, [.p (.int .i64 0)], 0⟩
         | false => match Nat.ble t 3 with
          | true => ⟨.int .i64, 1, [.p (.int .i64 0)], 0⟩
          | false => ⟨.bool, 1, [.p (.bool false)], 0⟩
       | false => match Nat.ble t 6 with
        | true => match Nat.ble t 5 with
         | true => ⟨.int .u8, 1, [.p (.int .u8 0)], 0⟩
         | false => ⟨.int .u8, 1, [.p (.int .u8 0)], 0⟩
        | false => match Nat.ble t 7 with
         | true => ⟨.struct [(0, 1), (1, 1), (2, 1), (3, 1)], 4, [.p (.int .i64 0), .p (.int .i64 0), .p (.bool false), .p (.int .u8 0)], 0⟩
         | false => match Nat.ble t 8 with
          | true => ⟨.struct [(0, 1), (1, 1), (2, 1), (3, 1)], 4, [.p (.int .i64 0), .p (.int .i64 0), .p (.bool false), .p (.int .u8 0)], 0⟩
          | false => ⟨.str, 1, [.p (.str ⟨#[]⟩)], 0⟩
      | false => match Nat.ble t 14 with
       | true => match Nat.ble t 11 with
        | true => match Nat.ble t 10 with
         | true => ⟨.str, 1, [.p (.str ⟨#[]⟩)], 0⟩
         | false => ⟨.str, 1, [.p (.str ⟨#[]⟩)], 0⟩
        | false => match Nat.ble t 12 with
         | true => ⟨.int .u64, 1, [.p (.int .u64 0)], 0⟩
         | false => match Nat.ble t 13 with
          | true => ⟨.struct [(0, 1), (1, 1)], 2, [.p (.str ⟨#[]⟩), .p (.int .u64 0)], 0⟩
          | false => ⟨.struct [(0, 1), (1, 1)], 2, [.p (.str ⟨#[]⟩), .p (.int .u64 0)], 0⟩
       | false => match Nat.ble t 17 with
        | true => match Nat.ble t 15 with
         | true => ⟨.ptr, 1, [.nilptr], 0⟩
         | false => match Nat.ble t 16 with
          | true => ⟨.ptr, 1, [.nilptr], 0⟩
          | false => ⟨.ptr, 1, [.nilptr], 0⟩
        | false => match Nat.ble t 18 with
         | true => ⟨.struct [(0, 1)], 1, [.nilptr], 0⟩
         | false => match Nat.ble t 19 with
          | true => ⟨.struct [(0, 1)], 1, [.nilptr], 0⟩
          | false => ⟨.other, 1, [.junk], 0⟩
     | false => match Nat.ble t 30 with
      | true => match Nat.ble t 25 with
       | true => match Nat.ble t 22 with
        | true => match Nat.ble t 21 with
         | true => ⟨.int .i32, 1, [.p (.int .i32 0)], 0⟩
         | false => ⟨.slice 3 1 8, 1, [.nilsl], 0⟩
        | false => match Nat.ble t 23 with
         | true => ⟨.ptr, 1, [.nilptr], 0⟩
         | false => match Nat.ble t 24 with
          | true => ⟨.func, 1, [.nilfn], 0⟩
          | false => ⟨.slice 58 5 40, 1, [.nilsl], 0⟩
       | false => match Nat.ble t 27 with
        | true => match Nat.ble t 26 with
         | true => ⟨.struct [(0, 1), (1, 1)], 2, [.nilsl, .nilsl], 0⟩
         | false => ⟨.struct [(0, 1), (1, 1)], 2, [.nilsl, .nilsl], 0⟩
        | false => match Nat.ble t 28 with
         | true => ⟨.func, 1, [.nilfn], 0⟩
         | false => match Nat.ble t 29 with
          | true => ⟨.func, 1, [.nilfn], 0⟩
          | false => ⟨.func, 1, [.nilfn], 0⟩
      | false => match Nat.ble t 35 with
       | true => match Nat.ble t 32 with
        | true => match Nat.ble t 31 with
         | true => ⟨.func, 1, [.nilfn], 0⟩
         | false => ⟨.func, 1, [.nilfn], 0⟩
        | false => match Nat.ble t 33 with
         | true => ⟨.func, 1, [.nilfn], 0⟩
         | false => match Nat.ble t 34 with
          | true => ⟨.int .i64, 1, [.p (.int .i64 0)], 0⟩
          | false => ⟨.bad, 0, [], 0⟩
       | false => match Nat.ble t 38 with
        | true => match Nat.ble t 36 with
         | true => ⟨.func, 1, [.nilfn], 0⟩
         | false => match Nat.ble t 37 with
          | true => ⟨.bad, 0, [], 0⟩
          | false => ⟨.func, 1, [.nilfn], 0⟩
        | false => match Nat.ble t 39 with
         | true => ⟨.func, 1, [.nilfn], 0⟩
         | false => match Nat.ble t 40 with
          | true => ⟨.func, 1, [.nilfn], 0⟩
          | false => ⟨.slice 66 1 24, 1, [.nilsl], 0⟩
    | false => match Nat.ble t 62 with
     | true => match Nat.ble t 51 with
      | true => match Nat.ble t 46 with
       | true => match Nat.ble t 43 with
        | true => match Nat.ble t 42 with
         | true => ⟨.func, 1, [.nilfn], 0⟩
         | false => ⟨.bad, 0, [], 0⟩
        | false => match Nat.ble t 44 with
         | true => ⟨.func, 1, [.nilfn], 0⟩
         | false => match Nat.ble t 45 with
          | true => ⟨.func, 1, [.nilfn], 0⟩
          | false => ⟨.func, 1, [.nilfn], 0⟩
       | false => match Nat.ble t 48 with
        | true => match Nat.ble t 47 with
         | true => ⟨.func, 1, [.nilfn], 0⟩
         | false => ⟨.func, 1, [.nilfn], 0⟩
        | false => match Nat.ble t 49 with
         | true => ⟨.slice 54 4 32, 1, [.nilsl], 0⟩
         | false => match Nat.ble t 50 with
          | true => ⟨.bad, 0, [], 0⟩
          | false => ⟨.func, 1, [.nilfn], 0⟩
      | false => match Nat.ble t 56 with
       | true => match Nat.ble t 53 with
        | true => match Nat.ble t 52 with
         | true => ⟨.func, 1, [.nilfn], 0⟩
         | false => ⟨.struct [(0, 1), (1, 1), (2, 1), (3, 1)], 4, [.p (.int .i64 0), .p (.int .i64 0), .p (.int .i64 0), .p (.int .i64 0)], 0⟩
        | false => match Nat.ble t 54 with
         | true => ⟨.struct [(0, 1), (1, 1), (2, 1), (3, 1)], 4, [.p (.int .i64 0), .p (.int .i64 0), .p (.int .i64 0), .p (.int .i64 0)], 0⟩
         | false => match Nat.ble t 55 with
          | true => ⟨.struct [(0, 1), (1, 1)], 2, [.nilsl, .p (.int .i64 0)], 0⟩
          | false => ⟨.struct [(0, 1), (1, 1)], 2, [.nilsl, .p (.int .i64 0)], 0⟩
       | false => match Nat.ble t 59 with
        | true => match Nat.ble t 57 with
         | true => ⟨.struct [(0, 1), (1, 1), (2, 1), (3, 1), (4, 1)], 5, [.p (.int .i64 0), .p (.int .i64 0), .p (.int .i64 0), .p (.int .i64 0), .p (.int .i64 0)], 0⟩
         | false => match Nat.ble t 58 with
          | true => ⟨.struct [(0, 1), (1, 1), (2, 1), (3, 1), (4, 1)], 5, [.p (.int .i64 0), .p (.int .i64 0), .p (.int .i64 0), .p (.int .i64 0), .p (.int .i64 0)], 0⟩
          | false => ⟨.func, 1, [.nilfn], 0⟩
        | false => match Nat.ble t 60 with
         | true => ⟨.func, 1, [.nilfn], 0⟩
         | false => match Nat.ble t 61 with
          | true => ⟨.func, 1, [.nilfn], 0⟩
          | false => ⟨.func, 1, [.nilfn], 0⟩
     | false => match Nat.ble t 72 with
      | true => match Nat.ble t 67 with
       | true => match Nat.ble t 64 with
        | true => match Nat.ble t 63 with
         | true => ⟨.slice 25 1 24, 1, [.nilsl], 0⟩
         | false => ⟨.func, 1, [.nilfn], 0⟩
        | false => match Nat.ble t 65 with
         | true => ⟨.func, 1, [.nilfn], 0⟩
         | false => match Nat.ble t 66 with
          | true => ⟨.slice 68 3 24, 1, [.nilsl], 0⟩
          | false => ⟨.struct [(0, 1), (1, 1), (2, 1)], 3, [.p (.int .i64 0), .p (.int .i64 0), .p (.int .i64 0)], 0⟩
       | false => match Nat.ble t 69 with
        | true => match Nat.ble t 68 with
         | true => ⟨.struct [(0, 1), (1, 1), (2, 1)], 3, [.p (.int .i64 0), .p (.int .i64 0), .p (.int .i64 0)], 0⟩
         | false => ⟨.ptr, 1, [.nilptr], 0⟩
        | false => match Nat.ble t 70 with
         | true => ⟨.bad, 0, [], 0⟩
         | false => match Nat.ble t 71 with
          | true => ⟨.func, 1, [.nilfn], 0⟩
          | false => ⟨.slice 93 2 16, 1, [.nilsl], 0⟩
      | false => match Nat.ble t 77 with
       | true => match Nat.ble t 74 with
        | true => match Nat.ble t 73 with
         | true => ⟨.slice 80 1 8, 1, [.nilsl], 0⟩
         | false => ⟨.struct [(0, 1), (1, 1), (2, 1), (3, 1), (4, 1), (5, 1)], 6, [.p (.int .i64 0), .nilsl, .nilsl, .p (.int .i64 0), .nilsl, .nilsl], 0⟩
        | false => match Nat.ble t 75 with
         | true => ⟨.struct [(0, 1), (1, 1), (2, 1), (3, 1), (4, 1), (5, 1)], 6, [.p (.int .i64 0), .nilsl, .nilsl, .p (.int .i64 0), .nilsl, .nilsl], 0⟩
         | false => match Nat.ble t 76 with
          | true => ⟨.map 3 93, 1, [.nilmap], 0⟩
          | false => ⟨.slice 4 1 1, 1, [.nilsl], 0⟩
       | false => match Nat.ble t 80 with
        | true => match Nat.ble t 78 with
         | true => ⟨.struct [(0, 1), (1, 1), (2, 1), (3, 1), (4, 1), (5, 1), (6, 1), (7, 1), (8, 1), (9, 1), (10, 1)], 11, [.nilsl, .p (.int .i64 0), .p (.bool false), .p (.bool false), .nilsl, .p (.int .i64 0), .nilmap, .nilsl, .nilsl, .p (.int .i64 0), .p (.bool false)], 0⟩
         | false => match Nat.ble t 79 with
          | true => ⟨.struct [(0, 1), (1, 1), (2, 1), (3, 1), (4, 1), (5, 1), (6, 1), (7, 1), (8, 1), (9, 1), (10, 1)], 11, [.nilsl, .p (.int .i64 0), .p (.bool false), .p (.bool false), .nilsl, .p (.int .i64 0), .nilmap, .nilsl, .nilsl, .p (.int .i64 0), .p (.bool false)], 0⟩
          | false => ⟨.ptr, 1, [.nilptr], 0⟩
        | false => match Nat.ble t 81 with
         | true => ⟨.func, 1, [.nilfn], 0⟩
         | false => match Nat.ble t 82 with
          | true => ⟨.func, 1, [.nilfn], 0⟩
          | false => ⟨.arr 5 4 1, 5, [.p (.bool false), .p (.bool false), .p (.bool false), .p (.bool false), .p (.bool false)], 0⟩
   | false => match Nat.ble t 125 with
    | true => match Nat.ble t 104 with
     | true => match Nat.ble t 93 with
      | true => match Nat.ble t 88 with
       | true => match Nat.ble t 85 with
        | true => match Nat.ble t 84 with
         | true => ⟨.arr 5 83 5, 25, [.p (.bool false), .p (.bool false), .p (.bool false), .p (.bool false), .p (.bool false), .p (.bool false), .p (.bool false), .p (.bool false), .p (.bool false), .p (.bool false), .p (.bool false), .p (.bool false), .p (.bool false), .p (.bool false), .p (.bool false), .p (.bool false), .p (.bool false), .p (.bool false), .p (.bool false), .p (.bool false), .p (.bool false), .p (.bool false), .p (.bool false), .p (.bool false), .p (.bool false)], 0⟩
         | false => ⟨.struct [(0, 25), (25, 25)], 50, [.p (.bool false), .p (.bool false), .p (.bool false), .p (.bool false), .p (.bool false), .p (.bool false), .p (.bool false), .p (.bool false), .p (.bool false), .p (.bool false), .p (.bool false), .p (.bool false), .p (.bool false), .p (.bool false), .p (.bool false), .p (.bool false), .p (.bool false), .p (.bool false), .p (.bool false), .p (.bool false), .p (.bool false), .p (.bool false), .p (.bool false), .p (.bool false), .p (.bool false), .p (.bool false), .p (.bool false), .p (.bool false), .p (.bool false), .p (.bool false), .p (.bool false), .p (.bool false), .p (.bool false), .p (.bool false), .p (.bool false), .p (.bool false), .p (.bool false), .p (.bool false), .p (.bool false), .p (.bool false), .p (.bool false), .p (.bool false), .p (.bool false), .p (.bool false), .p (.bool false), .p (.bool false), .p (.bool false), .p (.bool false), .p (.bool false), .p (.bool false)], 0⟩
        | false => match Nat.ble t 86 with
         | true => ⟨.struct [(0, 25), (25, 25)], 50, [.p (.bool false), .p (.bool false), .p (.bool false), .p (.bool false), .p (.bool false), .p (.bool false), .p (.bool false), .p (.bool false), .p (.bool false), .p (.bool false), .p (.bool false), .p (.bool false), .p (.bool false), .p (.bool false), .p (.bool false), .p (.bool false), .p (.bool false), .p (.bool false), .p (.bool false), .p (.bool false), .p (.bool false), .p (.bool false), .p (.bool false), .p (.bool false), .p (.bool false), .p (.bool false), .p (.bool false), .p (.bool false), .p (.bool false), .p (.bool false), .p (.bool false), .p (.bool false), .p (.bool false), .p (.bool false), .p (.bool false), .p (.bool false), .p (.bool false), .p (.bool false), .p (.bool false), .p (.bool false), .p (.bool false), .p (.bool false), .p (.bool false), .p (.bool false), .p (.bool false), .p (.bool false), .p (.bool false), .p (.bool false), .p (.bool false), .p (.bool false)], 0⟩
         | false => match Nat.ble t 87 with
          | true => ⟨.func, 1, [.nilfn], 0⟩
          | false => ⟨.func, 1, [.nilfn], 0⟩
       | false => match Nat.ble t 90 with
        | true => match Nat.ble t 89 with
         | true => ⟨.func, 1, [.nilfn], 0⟩
         | false => ⟨.func, 1, [.nilfn], 0⟩
        | false => match Nat.ble t 91 with
         | true => ⟨.func, 1, [.nilfn], 0⟩
         | false => match Nat.ble t 92 with
          | true => ⟨.struct [(0, 1), (1, 1)], 2, [.p (.int .i64 0), .p (.int .i64 0)], 0⟩
          | false => ⟨.struct [(0, 1), (1, 1)], 2, [.p (.int .i64 0), .p (.int .i64 0)], 0⟩
      | false => match Nat.ble t 98 with
       | true => match Nat.ble t 95 with
        | true => match Nat.ble t 94 with
         | true => ⟨.func, 1, [.nilfn], 0⟩
         | false => ⟨.func, 1, [.nilfn], 0⟩
        | false => match Nat.ble t 96 with
         | true => ⟨.bad, 0, [], 0⟩
         | false => match Nat.ble t 97 with
          | true => ⟨.func, 1, [.nilfn], 0⟩
          | false => ⟨.map 3 4, 1, [.nilmap], 0⟩
       | false => match Nat.ble t 101 with
        | true => match Nat.ble t 99 with
         | true => ⟨.func, 1, [.nilfn], 0⟩
         | false => match Nat.ble t 100 with
          | true => ⟨.func, 1, [.nilfn], 0⟩
          | false => ⟨.func, 1, [.nilfn], 0⟩
        | false => match Nat.ble t 102 with
         | true => ⟨.func, 1, [.nilfn], 0⟩
         | false => match Nat.ble t 103 with
          | true => ⟨.func, 1, [.nilfn], 0⟩
          | false => ⟨.func, 1, [.nilfn], 0⟩
     | false => match Nat.ble t 114 with
      | true => match Nat.ble t 109 with
       | true => match Nat.ble t 106 with
        | true => match Nat.ble t 105 with
         | true => ⟨.func, 1, [.nilfn], 0⟩
         | false => ⟨.func, 1, [.nilfn], 0⟩
        | false => match Nat.ble t 107 with
         | true => ⟨.slice 110 3 24, 1, [.nilsl], 0⟩
         | false => match Nat.ble t 108 with
          | true => ⟨.func, 1, [.nilfn], 0⟩
          | false => ⟨.struct [(0, 1), (1, 1), (2, 1)], 3, [.p (.int .i64 0), .p (.int .i64 0), .p (.int .i64 0)], 0⟩
       | false => match Nat.ble t 111 with
        | true => match Nat.ble t 110 with
         | true => ⟨.struct [(0, 1), (1, 1), (2, 1)], 3, [.p (.int .i64 0), .p (.int .i64 0), .p (.int .i64 0)], 0⟩
         | false => ⟨.func, 1, [.nilfn], 0⟩
        | false => match Nat.ble t 112 with
         | true => ⟨.func, 1, [.nilfn], 0⟩
         | false => match Nat.ble t 113 with
          | true => ⟨.func, 1, [.nilfn], 0⟩
          | false => ⟨.func, 1, [.nilfn], 0⟩
      | false => match Nat.ble t 119 with
       | true => match Nat.ble t 116 with
        | true => match Nat.ble t 115 with
         | true => ⟨.func, 1, [.nilfn], 0⟩
         | false => ⟨.func, 1, [.nilfn], 0⟩
        | false => match Nat.ble t 117 with
         | true => ⟨.func, 1, [.nilfn], 0⟩
         | false => match Nat.ble t 118 with
          | true => ⟨.func, 1, [.nilfn], 0⟩
          | false => ⟨.func, 1, [.nilfn], 0⟩
       | false => match Nat.ble t 122 with
        | true => match Nat.ble t 120 with
         | true => ⟨.func, 1, [.nilfn], 0⟩
         | false => match Nat.ble t 121 with
          | true => ⟨.func, 1, [.nilfn], 0⟩
          | false => ⟨.func, 1, [.nilfn], 0⟩
        | false => match Nat.ble t 123 with
         | true => ⟨.func, 1, [.nilfn], 0⟩
         | false => match Nat.ble t 124 with
          | true => ⟨.func, 1, [.nilfn], 0⟩
          | false => ⟨.func, 1, [.nilfn], 0⟩
    | false => match Nat.ble t 146 with
     | true => match Nat.ble t 135 with
      | true => match Nat.ble t 130 with
       | true => match Nat.ble t 127 with
        | true => match Nat.ble t 126 with
         | true => ⟨.func, 1, [.nilfn], 0⟩
         | false => ⟨.int .u64, 1, [.p (.int .u64 0)], 0⟩
        | false => match Nat.ble t 128 with
         | true => ⟨.func, 1, [.nilfn], 0⟩
         | false => match Nat.ble t 129 with
          | true => ⟨.func, 1, [.nilfn], 0⟩
          | false => ⟨.bad, 0, [], 0⟩
       | false => match Nat.ble t 132 with
        | true => match Nat.ble t 131 with
         | true => ⟨.func, 1, [.nilfn], 0⟩
         | false => ⟨.func, 1, [.nilfn], 0⟩
        | false => match Nat.ble t 133 with
         | true => ⟨.func, 1, [.nilfn], 0⟩
         | false => match Nat.ble t 134 with
          | true => ⟨.int .i64, 1, [.p (.int .i64 0)], 0⟩
          | false => ⟨.bad, 0, [], 0⟩
      | false => match Nat.ble t 140 with
       | true => match Nat.ble t 137 with
        | true => match Nat.ble t 136 with
         | true => ⟨.func, 1, [.nilfn], 0⟩
         | false => ⟨.func, 1, [.nilfn], 0⟩
        | false => match Nat.ble t 138 with
         | true => ⟨.func, 1, [.nilfn], 0⟩
         | false => match Nat.ble t 139 with
          | true => ⟨.bad, 0, [], 0⟩
          | false => ⟨.func, 1, [.nilfn], 0⟩
       | false => match Nat.ble t 143 with
        | true => match Nat.ble t 141 with
         | true => ⟨.func, 1, [.nilfn], 0⟩
         | false => match Nat.ble t 142 with
          | true => ⟨.int .u32, 1, [.p (.int .u32 0)], 0⟩
          | false => ⟨.func, 1, [.nilfn], 0⟩
        | false => match Nat.ble t 144 with
         | true => ⟨.int .u64, 1, [.p (.int .u64 0)], 0⟩
         | false => match Nat.ble t 145 with
          | true => ⟨.int .u64, 1, [.p (.int .u64 0)], 0⟩
          | false => ⟨.func, 1, [.nilfn], 0⟩
     | false => match Nat.ble t 157 with
      | true => match Nat.ble t 151 with
       | true => match Nat.ble t 148 with
        | true => match Nat.ble t 147 with
         | true => ⟨.func, 1, [.nilfn], 0⟩
         | false => ⟨.func, 1, [.nilfn], 0⟩
        | false => match Nat.ble t 149 with
         | true => ⟨.ptr, 1, [.nilptr], 0⟩
         | false => match Nat.ble t 150 with
          | true => ⟨.func, 1, [.nilfn], 0⟩
          | false => ⟨.ptr, 1, [.nilptr], 0⟩
       | false => match Nat.ble t 154 with
        | true => match Nat.ble t 152 with
         | true => ⟨.bad, 0, [], 0⟩
         | false => match Nat.ble t 153 with
          | true => ⟨.func, 1, [.nilfn], 0⟩
          | false => ⟨.func, 1, [.nilfn], 0⟩
        | false => match Nat.ble t 155 with
         | true => ⟨.struct [(0, 1), (1, 1), (2, 1), (3, 1)], 4, [.nilptr, .nilptr, .nilptr, .p (.str ⟨#[]⟩)], 0⟩
         | false => match Nat.ble t 156 with
          | true => ⟨.struct [(0, 1), (1, 1), (2, 1), (3, 1)], 4, [.nilptr, .nilptr, .nilptr, .p (.str ⟨#[]⟩)], 0⟩
          | false => ⟨.arr 0 16 1, 0, [], 0⟩
      | false => match Nat.ble t 162 with
       | true => match Nat.ble t 159 with
        | true => match Nat.ble t 158 with
         | true => ⟨.struct [(0, 0)], 0, [], 0⟩
         | false => ⟨.struct [(0, 0)], 0, [], 0⟩
        | false => match Nat.ble t 160 with
         | true => ⟨.int .u8, 1, [.p (.int .u8 0)], 0⟩
         | false => match Nat.ble t 161 with
          | true => ⟨.int .u8, 1, [.p (.int .u8 0)], 0⟩
          | false => ⟨.func, 1, [.nilfn], 0⟩
       | false => match Nat.ble t 165 with
        | true => match Nat.ble t 163 with
         | true => ⟨.ptr, 1, [.nilptr], 0⟩
         | false => match Nat.ble t 164 with
          | true => ⟨.int .i32, 1, [.p (.int .i32 0)], 0⟩
          | false => ⟨.int .i32, 1, [.p (.int .i32 0)], 0⟩
        | false => match Nat.ble t 166 with
         | true => ⟨.struct [(0, 1), (1, 1), (2, 1), (3, 1), (4, 1), (5, 1), (6, 1), (7, 1), (8, 1), (9, 1), (10, 1)], 11, [.p (.int .u64 0), .p (.int .u64 0), .p (.int .u32 0), .p (.int .u8 0), .p (.int .u8 0), .p (.int .u8 0), .p (.int .u8 0), .nilfn, .nilptr, .p (.int .i32 0), .p (.int .i32 0)], 0⟩
         | false => match Nat.ble t 167 with
          | true => ⟨.struct [(0, 1), (1, 1), (2, 1), (3, 1), (4, 1), (5, 1), (6, 1), (7, 1), (8, 1), (9, 1), (10, 1)], 11, [.p (.int .u64 0), .p (.int .u64 0), .p (.int .u32 0), .p (.int .u8 0), .p (.int .u8 0), .p (.int .u8 0), .p (.int .u8 0), .nilfn, .nilptr, .p (.int .i32 0), .p (.int .i32 0)], 0⟩
          | false => ⟨.other, 1, [.nilptr], 0⟩

theorem mx_ok : Try.prog.follows .mixedOrders = true := by kernel_rfl

theorem T_ok : TyOk Try.prog T := tyOk_of 169 (by kernel_rfl) (fun t ht => by
  unfold T
  have : Nat.blt t 169 = false := by cases h : Nat.blt t 169 <;> simp_all; omega
  rw [this])
end Qa.S43

set_option maxRecDepth 100000
namespace Qa.S43
open Go Go.Proofs

theorem wrap64 {n : Int} (h1 : -9223372036854775808 ≤ n) (h2 : n ≤ 9223372036854775807) : IntKind.i64.wrap n = n := by
  have e : IntKind.i64.bits = 64 := rfl
  have e2 : IntKind.i64.signed = true := rfl
  simp [IntKind.wrap, e, e2]
  split <;> omega

abbrev i64 (n : Int) : D := .p (.int .i64 n)
def ints (l : List Int) : Pd := .list (l.map (.int .i64))

structure Tape where
  L : List Int
  at_ : Nat

def Tape.blk (t : Tape) : Blk := .cells 56 [.p (.list (t.L.map (.int .i64))), .p (.int .i64 (t.at_ : Int))]

def Tape.ok (t : Tape) : Prop := t.L.length ≤ 2000

def Tape.raw (t : Tape) : Int × Tape := match t.L[t.at_]? with
  | some n => (n, { t with at_ := t.at_ + 1 })
  | none => (0, t)

theorem Tape.raw_ok {t : Tape} (h : t.ok) : t.raw.2.ok := by
  unfold Tape.raw
  split <;> exact h

theorem raw_ac (t : Tape) (h : t.ok) : AC Try.prog 50 [.ref 0 0] [t.blk] (i64 t.raw.1) [t.raw.2.blk] := by
  have h : t.L.length ≤ 2000 := h
  refine AC.body T_ok mx_ok Try.func50 rfl rfl rfl rfl rfl rfl ?_
  conv => whnf
  refine needP_intro (by kernel_rfl) ?_
  conv => whnf
  refine condB_split (fun h1 => ?_) (fun h1 => ?_)
  · have hn : t.L[t.at_]? = none := by simp at h1; simp; omega
    have hr : t.raw = (0, t) := by simp [Tape.raw, hn]
    rw [hr]
    conv => whnf
    refine DoneLe.mk [0] rfl rfl ?_ (DLe.refl _) rfl rfl
    exact ldHeap_cons rfl (BLe.refl _) rfl ldHeap_nil
  · have hlt : t.at_ < t.L.length := by simp at h1; omega
    have hn : t.L[t.at_]? = some t.L[t.at_] := List.getElem?_eq_getElem hlt
    have hr : t.raw = (t.L[t.at_], { t with at_ := t.at_ + 1 }) := by simp [Tape.raw, hn]
    rw [hr]
    conv => whnf
    refine wrapP_intro (wrap64 (by omega) (by omega)) ?_
    conv => whnf
    refine wrapP_intro (wrap64 (by omega) (by omega)) ?_
    conv => whnf
    refine getP_intro (.int .i64 t.L[t.at_]) (by omega) (by simp [hn]) ?_
    conv => whnf
    refine needP_intro (by kernel_rfl) ?_
    conv => whnf
    refine DoneLe.mk [0] rfl rfl ?_ (DLe.refl _) rfl rfl
    exact ldHeap_cons rfl (BLe.refl _) rfl ldHeap_nil

def modG (x n : Int) : Int := if n < 1 then 0 else x % n

theorem emod_tmod (x : Int) {n : Int} (h : 1 ≤ n) : x % n = if x.tmod n < 0 then x.tmod n + n else x.tmod n := by
  have h1 := Int.mul_tdiv_add_tmod x n
  have h3 := Int.tmod_lt_of_pos x (show 0 < n by omega)
  have h2 := Int.lt_tmod_of_pos x (show 0 < n by omega)
  split
  · rename_i hh
    have e : x = (x.tmod n + n) + n * (x.tdiv n - 1) := by rw [Int.mul_sub]; omega
    conv => lhs; rw [e]
    rw [Int.add_mul_emod_self_left, Int.emod_eq_of_lt (by omega) (by omega)]
  · rename_i hh
    have e : x = x.tmod n + n * x.tdiv n := by omega
    conv => lhs; rw [e]
    rw [Int.add_mul_emod_self_left, Int.emod_eq_of_lt (by omega) (by omega)]

theorem mod_ac (x n : Int) (hn : n ≤ 1000000) : AC Try.prog 49 [i64 x, i64 n] [] (i64 (modG x n)) [] := by
  refine AC.body T_ok mx_ok Try.func49 rfl rfl rfl rfl rfl rfl ?_
  conv => whnf
  refine condB_split (fun h1 => ?_) (fun h1 => ?_)
  · conv => whnf
    refine DoneLe.p ?_
    simp at h1
    simp [modG, h1]
  · have h1 : 1 ≤ n := by simpa using h1
    have e := emod_tmod x h1
    have b1 := Int.tmod_lt_of_pos x (show 0 < n by omega)
    have b2 := Int.lt_tmod_of_pos x (show 0 < n by omega)
    conv => whnf
    refine needP_intro (by omega) ?_
    conv => whnf
    refine condB_split (fun h2 => ?_) (fun h2 => ?_)
    · have h2 : x.tmod n < 0 := by simpa using h2
      conv => whnf
      refine wrapP_intro (wrap64 (by omega) (by omega)) ?_
      conv => whnf
      refine DoneLe.p ?_
      simp [modG, show ¬ n < 1 by omega, e, h2]
    · have h2 : ¬ x.tmod n < 0 := by simpa using h2
      conv => whnf
      refine DoneLe.p ?_
      simp [modG, show ¬ n < 1 by omega, e, h2]

theorem modG_lt (x : Int) {n : Int} (h : 1 ≤ n) : 0 ≤ modG x n ∧ modG x n < n := by
  unfold modG
  rw [if_neg (by omega)]
  exact ⟨Int.emod_nonneg x (by omega), Int.emod_lt_of_pos x (by omega)⟩

def Tape.n (t : Tape) (n : Int) : Int × Tape := (modG t.raw.1 n, t.raw.2)

theorem n_ac (t : Tape) (h : t.ok) (n : Int) (hn : n ≤ 1000000) : AC Try.prog 32 [.ref 0 0, i64 n] [t.blk] (i64 (t.n n).1) [(t.n n).2.blk] := by
  refine AC.body T_ok mx_ok Try.func32 rfl rfl rfl rfl rfl rfl ?_
  conv => whnf
  refine (raw_ac t h).call [0] rfl ⟨DLe.refl _, trivial⟩ (ldHeap_cons rfl (BLe.refl _) rfl ldHeap_nil) ?_
  conv => whnf
  refine (mod_ac t.raw.1 n hn).callP ⟨DLe.refl _, DLe.refl _, trivial⟩ ?_
  conv => whnf
  refine DoneLe.mk [0] rfl rfl ?_ (DLe.refl _) rfl rfl
  exact ldHeap_cons rfl (BLe.refl _) rfl ldHeap_nil

theorem Tape.n_ok {t : Tape} (h : t.ok) (n : Int) : (t.n n).2.ok := Tape.raw_ok h

def Tape.range (t : Tape) (lo hi : Int) : Int × Tape := (lo + (t.n (hi - lo + 1)).1, (t.n (hi - lo + 1)).2)

theorem Tape.range_ok {t : Tape} (h : t.ok) (lo hi : Int) : (t.range lo hi).2.ok := Tape.raw_ok h
theorem Tape.range_in (t : Tape) {lo hi : Int} (h : lo ≤ hi) : lo ≤ (t.range lo hi).1 ∧ (t.range lo hi).1 ≤ hi := by
  have := modG_lt t.raw.1 (show 1 ≤ hi - lo + 1 by omega)
  simp only [Tape.range, Tape.n]
  omega

theorem range_ac (t : Tape) (h : t.ok) (lo hi : Int) (h1 : -1000 ≤ lo) (h2 : lo ≤ hi) (h3 : hi ≤ 1000) : AC Try.prog 31 [.ref 0 0, i64 lo, i64 hi] [t.blk] (i64 (t.range lo hi).1) [(t.range lo hi).2.blk] := by
  have hb := t.range_in h2
  refine AC.body T_ok mx_ok Try.func31 rfl rfl rfl rfl rfl rfl ?_
  conv => whnf
  refine wrapP_intro (wrap64 (by omega) (by omega)) ?_
  conv => whnf
  refine wrapP_intro (wrap64 (by omega) (by omega)) ?_
  conv => whnf
  refine (n_ac t h (hi - lo + 1) (by omega)).call [0] rfl ⟨DLe.refl _, DLe.refl _, trivial⟩ (ldHeap_cons rfl (BLe.refl _) rfl ldHeap_nil) ?_
  conv => whnf
  refine wrapP_intro (wrap64 (by simp only [Tape.range] at hb; omega) (by simp only [Tape.range] at hb; omega)) ?_
  conv => whnf
  refine DoneLe.mk [0] rfl rfl ?_ (DLe.refl _) rfl rfl
  exact ldHeap_cons rfl (BLe.refl _) rfl ldHeap_nil

def Tape.pick (t : Tape) (l : List Int) : Int × Tape := (l.getD (t.n l.length).1.toNat 0, (t.n l.length).2)
theorem Tape.pick_ok {t : Tape} (h : t.ok) (l : List Int) : (t.pick l).2.ok := Tape.raw_ok h

theorem pick_ac (t : Tape) (h : t.ok) (l : List Int) (hl : 1 ≤ l.length) (hl2 : l.length ≤ 1000) : AC Try.prog 33 [.ref 0 0, .p (.list (l.map (.int .i64)))] [t.blk] (i64 (t.pick l).1) [(t.pick l).2.blk] := by
  have hb := modG_lt t.raw.1 (show (1 : Int) ≤ l.length by omega)
  refine AC.body T_ok mx_ok Try.func33 rfl rfl rfl rfl rfl rfl ?_
  conv => whnf
  refine (n_ac t h l.length (by omega)).call [0] rfl ⟨DLe.refl _, DLe.p (by simp), trivial⟩ (ldHeap_cons rfl (BLe.refl _) rfl ldHeap_nil) ?_
  conv => whnf
  refine getP_intro (.int .i64 (t.pick l).1) hb.1 ?_ ?_
  · have : (modG t.raw.1 l.length).toNat < l.length := by omega
    show (l.map (Pd.int .i64))[(modG t.raw.1 l.length).toNat]? = _
    rw [List.getElem?_map, List.getElem?_eq_getElem this]
    simp [Tape.pick, Tape.n, this]
  · conv => whnf
    refine DoneLe.mk [0] rfl rfl ?_ (DLe.refl _) rfl rfl
    exact ldHeap_cons rfl (BLe.refl _) rfl ldHeap_nil

def newTape (l : List Int) : Tape := ⟨l.take 2000, 0⟩
theorem newTape_ok (l : List Int) : (newTape l).ok := by simp [newTape, Tape.ok]; omega

theorem new_ac (l : List Int) : AC Try.prog 7 [.p (.list (l.map (.int .i64)))] [] (.ref 0 0) [(newTape l).blk] := by
  refine AC.body T_ok mx_ok Try.func7 rfl rfl rfl rfl rfl rfl ?_
  conv => whnf
  refine needP_intro ⟨by omega, by omega, by omega, fun x hx => ?_⟩ ?_
  · simp at hx; obtain ⟨a, _, rfl⟩ := hx; rfl
  conv => whnf
  refine DoneLe.mk [0] rfl rfl ?_ (DLe.refl _) rfl rfl
  refine ldHeap_cons rfl (BLe.eq ?_) rfl ldHeap_nil
  have e : ((l.map (Pd.int .i64)).take (min (l.map (Pd.int .i64)).length 2000 : Int).toNat).drop (0 : Int).toNat = (l.take 2000).map (Pd.int .i64) := by
    rw [List.map_take]
    simp only [List.drop_zero, Int.toNat_zero]
    rw [List.take_eq_take_iff]
    simp
    omega
  show Blk.cells 56 [.p (.list _), .p (.int .i64 0)] = Blk.cells 56 [.p (.list _), .p (.int .i64 0)]
  rw [e]
  rfl
end Qa.S43

set_option maxRecDepth 100000
namespace Qa.S43
open Go Go.Proofs

structure Ev where
  kind : Int
  tr : Int
  key : Int
  value : Int
  fr : Int
def Ev.cs (e : Ev) : List Pd := [.int .i64 e.kind, .int .i64 e.tr, .int .i64 e.key, .int .i64 e.value, .int .i64 e.fr]
def Ev.enc (e : Ev) : Pd := .agg e.cs
def Ev.blk (e : Ev) : Blk := .cells 58 [i64 e.kind, i64 e.tr, i64 e.key, i64 e.value, i64 e.fr]
structure Hist where
  start : List Int
  events : List Ev
def evs (l : List Ev) : Pd := .list (l.map Ev.enc)
def Hist.enc (h : Hist) : Pd := .agg [ints h.start, evs h.events]
def Hist.blk (h : Hist) : Blk := .cells 27 [.p (ints h.start), .p (evs h.events)]

theorem bd (a b : Int) : (a == b) = decide (a = b) := by
  by_cases h : a = b <;> simp [h]

def ended (e : Ev) : Bool := e.kind == 3 || e.kind == 4

theorem ended_ac (e : Ev) : AC Try.prog 43 [.p e.enc] [] (.p (.bool (ended e))) [] := by
  refine AC.body T_ok mx_ok Try.func43 rfl rfl rfl rfl rfl rfl ?_
  conv => whnf
  refine condB_split (fun h => ?_) (fun h => ?_)
  · conv => whnf
    refine DoneLe.p ?_
    simp at h
    simp [ended, h]
  · conv => whnf
    refine DoneLe.p ?_
    simp at h
    simp [ended, h, bd]

theorem evs_get {l : List Ev} {k : Nat} (h : k < l.length) : (l.map Ev.enc)[k]? = some (l[k]'h).enc := by
  rw [List.getElem?_map, List.getElem?_eq_getElem h]; rfl

-- the callback of reads
def isW (x w : Ev) : Bool := w.kind == 2 && w.tr == x.fr && w.key == x.key && w.value == x.value

theorem reads1_ac (x w : Ev) : AC Try.prog 71 [.p w.enc, .ref 0 0] [x.blk] (.p (.bool (isW x w))) [x.blk] := by
  refine AC.body T_ok mx_ok Try.func71 rfl rfl rfl rfl rfl rfl ?_
  conv => whnf
  iterate 4 (all_goals (try (refine condB_split (fun h => ?_) (fun h => ?_) <;> conv => whnf)))
  all_goals refine DoneLe.mk [0] rfl rfl (ldHeap_cons rfl (BLe.refl _) rfl ldHeap_nil) (DLe.p ?_) rfl rfl
  all_goals simp_all [isW, bd]

/-- IndexFunc over events, with a callback that looks at one variable. -/
theorem indexEv_ac (l : List Ev) (g : Nat) (B : Blk) (p : Ev → Bool) (hu : B.under (below 1) = true) (hB : ∀ σ, B.ren σ = B)
    (hg : ∀ e, AC Try.prog g [.p e.enc, .ref 0 0] [B] (.p (.bool (p e))) [B]) (hlen : l.length ≤ 1000000) :
    AC Try.prog 85 [.p (evs l), .fn g [] [.ref 0 0]] [B] (i64 (match l.findIdx? p with | some k => (k : Int) | none => -1)) [B] := by
  refine AC.body T_ok mx_ok Try.func85 rfl rfl rfl rfl rfl rfl ?_
  conv => whnf
  refine loop_fam (ι := Nat) (fun k => [(0, .p (evs l)), (1, .fn g [] [.ref 0 0]), (7, i64 l.length), (8, i64 k)]) (fun _ => [(0, B)]) 1 (fun k => k ≤ l.length ∧ ∀ e ∈ l.take k, p e = false) (fun k => l.length - k) 0 []
    ⟨Nat.zero_le _, by simp⟩ ⟨rfl, by simp, ?_, ?_⟩ ?_
  · refine leSlots_cons (DLeT.refl _ _) rfl (leSlots_cons (DLeT.refl _ _) rfl (leSlots_cons ((DLe.p (by simp)).t _) rfl (leSlots_cons (DLeT.refl _ _) rfl leSlots_nil)))
  · exact leHeap_cons rfl (BLeT.refl _) rfl hu leHeap_nil
  · rintro k ⟨hk, hp⟩ R hR
    conv => whnf
    refine condB_split (fun h => ?_) (fun h => ?_)
    · have h : k < l.length := by simpa using h
      conv => whnf
      refine getP_intro l[k].enc (by omega) (by simpa using evs_get h) ?_
      conv => whnf
      refine (hg l[k]).call [0] rfl ⟨DLe.refl _, DLe.refl _, trivial⟩ (ldHeap_cons rfl (BLe.eq (hB _).symm) hu ldHeap_nil) ?_
      conv => whnf
      refine condB_split (fun h2 => ?_) (fun h2 => ?_)
      · conv => whnf
        refine DoneLe.mk [0] rfl rfl (ldHeap_cons rfl (BLe.refl _) hu ldHeap_nil) (DLe.p ?_) rfl rfl
        have : l.findIdx? p = some k := by
          rw [List.findIdx?_eq_some_iff_getElem]
          refine ⟨h, h2, fun j hj => ?_⟩
          have := hp (l[j]'(by omega)) (List.mem_take_iff_getElem.2 ⟨j, by omega, rfl⟩)
          simp [this]
        rw [this]
      · conv => whnf
        refine wrapP_intro (wrap64 (by omega) (by omega)) ?_
        conv => whnf
        refine hR _ _ _ (k + 1) ⟨h, fun e he => ?_⟩ (by omega) ⟨rfl, by simp, ?_, ?_⟩
        · rw [List.take_succ_eq_append_getElem h] at he
          rcases List.mem_append.1 he with he | he
          · exact hp e he
          · simp at he; subst he; exact h2
        · refine leSlots_cons (DLeT.refl _ _) rfl (leSlots_cons (DLeT.refl _ _) rfl (leSlots_cons (DLeT.refl _ _) rfl (leSlots_cons ((DLe.p (by simp)).t _) rfl leSlots_nil)))
        · exact leHeap_cons rfl (BLeT.eq (hB _)) rfl hu leHeap_nil
    · have h : ¬ k < l.length := by simpa using h
      conv => whnf
      refine DoneLe.mk [0] rfl rfl (ldHeap_cons rfl (BLe.eq (hB _).symm) hu ldHeap_nil) (DLe.p ?_) rfl rfl
      have : l.findIdx? p = none := by
        rw [List.findIdx?_eq_none_iff]
        intro e he
        exact hp e (by rw [show k = l.length by omega, List.take_length]; exact he)
      rw [this]
end Qa.S43

set_option maxRecDepth 100000
namespace Qa.S43
open Go Go.Proofs

theorem containsEv_ac (l : List Ev) (g : Nat) (B : Blk) (p : Ev → Bool) (hu : B.under (below 1) = true) (hB : ∀ σ, B.ren σ = B)
    (hg : ∀ e, AC Try.prog g [.p e.enc, .ref 0 0] [B] (.p (.bool (p e))) [B]) (hlen : l.length ≤ 1000000) :
    AC Try.prog 70 [.p (evs l), .fn g [] [.ref 0 0]] [B] (.p (.bool (l.any p))) [B] := by
  refine AC.body T_ok mx_ok Try.func70 rfl rfl rfl rfl rfl rfl ?_
  conv => whnf
  refine (indexEv_ac l g B p hu hB hg hlen).call [0] rfl ⟨DLe.refl _, DLe.refl _, trivial⟩ (ldHeap_cons rfl (BLe.eq (hB _).symm) hu ldHeap_nil) ?_
  conv => whnf
  refine DoneLe.mk [0] rfl rfl (ldHeap_cons rfl (BLe.refl _) hu ldHeap_nil) (DLe.p ?_) rfl rfl
  cases h : l.findIdx? p with
  | none =>
    have h2 : l.any p = false := by
      rw [List.findIdx?_eq_none_iff] at h
      simp only [List.any_eq_false]
      intro x hx; simp [h x hx]
    rw [h2]
    simp
  | some k =>
    have h2 : l.any p = true := by
      rw [List.findIdx?_eq_some_iff_getElem] at h
      obtain ⟨h1, h3, _⟩ := h
      exact List.any_eq_true.2 ⟨_, List.getElem_mem h1, h3⟩
    rw [h2]
    simp

/-- the write that a read of the own transaction returns. -/
def ownW (x w : Ev) : Bool := w.kind == 2 && w.tr == x.tr && w.key == x.key

def readsB (h : Hist) (before : List Ev) (x : Ev) : Bool :=
  match before.reverse.find? (ownW x) with
  | some w => x.fr == x.tr && x.value == w.value
  | none => if x.fr == -1 then x.value == h.start.getD x.key.toNat 0 else x.fr != x.tr && before.any (isW x)

theorem reads_ac (h : Hist) (before : List Ev) (x : Ev) (hk0 : 0 ≤ x.key) (hk : x.key < h.start.length) (hlen : before.length ≤ 1000000) :
    AC Try.prog 44 [.p h.enc, .p (evs before), .p x.enc] [] (.p (.bool (readsB h before x))) [] := by
  refine AC.body T_ok mx_ok Try.func44 rfl rfl rfl rfl rfl rfl ?_
  conv => whnf
  refine wrapP_intro (wrap64 (by simp; omega) (by simp; omega)) ?_
  conv => whnf
  refine loop_fam (ι := Nat) (fun k => [(1, .p (evs before)), (3, .ref 0 0), (5, .ref 1 0), (7, i64 ((k : Int) - 1))]) (fun _ => [(0, h.blk), (1, x.blk)]) 2
    (fun k => k ≤ before.length ∧ ∀ e ∈ before.drop k, ownW x e = false) (fun k => k) before.length [] ⟨Nat.le_refl _, by simp⟩ ⟨rfl, by simp, ?_, ?_⟩ ?_
  · refine leSlots_cons (DLeT.refl _ _) rfl (leSlots_cons (DLeT.refl _ _) rfl (leSlots_cons (DLeT.refl _ _) rfl (leSlots_cons ((DLe.p (by simp)).t _) rfl leSlots_nil)))
  · exact leHeap_cons rfl (BLeT.refl _) rfl rfl (leHeap_cons rfl (BLeT.refl _) rfl rfl leHeap_nil)
  · rintro k ⟨hk, hp⟩ R hR
    conv => whnf
    refine condB_split (fun h1 => ?_) (fun h1 => ?_)
    · have h1 : 1 ≤ k := by simp at h1; omega
      have hlt : k - 1 < before.length := by omega
      have hz : ((k : Int) - 1).toNat = k - 1 := by omega
      conv => whnf
      refine getP_intro before[k - 1].enc (by omega) (by rw [hz]; exact evs_get hlt) ?_
      conv => whnf
      iterate 3 (all_goals (try (refine condB_split (fun h2 => ?_) (fun h2 => ?_) <;> conv => whnf)))
      · have hw : ownW x before[k - 1] = true := by simp [ownW, bd, *] at *; simp [*]
        have hfind : before.reverse.find? (ownW x) = some before[k - 1] := by
          have hd : before = before.take (k - 1) ++ before[k - 1] :: before.drop k := by
            have e := List.drop_eq_getElem_cons hlt
            rw [show k - 1 + 1 = k by omega] at e
            rw [← e, List.take_append_drop]
          rw [List.find?_eq_some_iff_append]
          refine ⟨hw, (before.drop k).reverse, (before.take (k - 1)).reverse, ?_, fun a ha => ?_⟩
          · conv => lhs; rw [hd]
            simp
          · rw [hp a (by simpa using ha)]; rfl
        have hr : readsB h before x = (x.fr == x.tr && x.value == before[k - 1].value) := by simp [readsB, hfind]
        refine condB_split (fun h3 => ?_) (fun h3 => ?_)
        · conv => whnf
          refine DoneLe.p ?_
          have h3 : x.fr = x.tr := by simpa using h3
          rw [hr]; simp [h3, bd]
        · conv => whnf
          refine DoneLe.p ?_
          have h3 : ¬ x.fr = x.tr := by simpa using h3
          rw [hr]; simp [h3]
      all_goals
        have hw : ownW x before[k - 1] = false := by simp_all [ownW, bd]
        refine wrapP_intro (wrap64 (by omega) (by omega)) ?_
        conv => whnf
        refine hR _ _ _ (k - 1) ⟨by omega, fun e he => ?_⟩ (by omega) ⟨rfl, by simp, ?_, ?_⟩
        · rw [List.drop_eq_getElem_cons hlt, show k - 1 + 1 = k by omega] at he
          rcases List.mem_cons.1 he with rfl | he
          · exact hw
          · exact hp e he
        · exact leSlots_cons (DLeT.refl _ _) rfl (leSlots_cons (DLeT.refl _ _) rfl (leSlots_cons (DLeT.refl _ _) rfl (leSlots_cons ((DLe.p (by congr 1; omega)).t _) rfl leSlots_nil)))
        · exact leHeap_cons rfl (BLeT.refl _) rfl rfl (leHeap_cons rfl (BLeT.refl _) rfl rfl leHeap_nil)
    · have hk0 : k = 0 := by simp at h1; omega
      subst hk0
      have hfind : before.reverse.find? (ownW x) = none := by
        rw [List.find?_eq_none]
        intro e he
        rw [hp e (by simpa using he)]; simp
      conv => whnf
      refine condB_split (fun h2 => ?_) (fun h2 => ?_)
      · have h2 : x.fr = -1 := by simpa using h2
        conv => whnf
        have hlt : x.key.toNat < h.start.length := by omega
        refine getP_intro (.int .i64 h.start[x.key.toNat]) hk0 (by rw [List.getElem?_map, List.getElem?_eq_getElem hlt]; rfl) ?_
        conv => whnf
        refine needP_intro (by kernel_rfl) ?_
        conv => whnf
        refine DoneLe.p ?_
        simp [readsB, hfind, h2, bd, List.getD_eq_getElem?_getD, List.getElem?_eq_getElem hlt]
      · have h2 : ¬ x.fr = -1 := by simpa using h2
        conv => whnf
        refine condB_split (fun h3 => ?_) (fun h3 => ?_)
        · have h3 : ¬ x.fr = x.tr := by simpa using h3
          conv => whnf
          refine (containsEv_ac before 71 x.blk (isW x) rfl (fun _ => rfl) (reads1_ac x) hlen).call [1] rfl ⟨DLe.refl _, DLe.refl _, trivial⟩ (ldHeap_cons rfl (BLe.refl _) rfl ldHeap_nil) ?_
          conv => whnf
          refine DoneLe.p ?_
          simp [readsB, hfind, h2, h3]
        · have h3 : x.fr = x.tr := by simpa using h3
          conv => whnf
          refine DoneLe.p ?_
          have h4 : ¬ x.tr = -1 := h3 ▸ h2
          simp [readsB, hfind, h3, h4]

def rightB (h : Hist) (before : List Ev) (x : Ev) : Bool :=
  if x.tr < 0 ∨ 5 ≤ x.tr then false
  else if before.any (fun y => y.tr == x.tr && ended y) then false
  else if (before.any fun y => y.tr == x.tr) == (x.kind == 5) then false
  else if x.kind = 5 ∨ x.kind = 3 ∨ x.kind = 4 then x.key == 0 && x.value == 0 && x.fr == 0
  else if x.kind = 2 then decide (0 ≤ x.key ∧ x.key < h.start.length) && x.fr == 0
  else if x.kind = 1 then decide (0 ≤ x.key ∧ x.key < h.start.length) && readsB h before x
  else false

theorem right_ac (h : Hist) (before : List Ev) (x : Ev) (hlen : before.length ≤ 1000000) (hs : h.start.length ≤ 1000000) :
    AC Try.prog 26 [.p h.enc, .p (evs before), .p x.enc] [] (.p (.bool (rightB h before x))) [] := by
  refine AC.body T_ok mx_ok Try.func26 rfl rfl rfl rfl rfl rfl ?_
  conv => whnf
  refine condB_split (fun h1 => ?_) (fun h1 => ?_)
  · conv => whnf
    refine DoneLe.p ?_
    have h1 : x.tr < 0 := by simpa using h1
    simp [rightB, h1]
  have h1 : 0 ≤ x.tr := by simpa using h1
  conv => whnf
  refine condB_split (fun h2 => ?_) (fun h2 => ?_)
  · conv => whnf
    refine DoneLe.p ?_
    have h2 : 5 ≤ x.tr := by simpa using h2
    simp [rightB, h2]
  have h2 : ¬ 5 ≤ x.tr := by simpa using h2
  have hg : ¬ (x.tr < 0 ∨ 5 ≤ x.tr) := by omega
  conv => whnf
  refine loop_fam (ι := Nat) (fun k => [(1, .p (evs before)), (3, .ref 0 0), (5, .ref 1 0), (7, .p (.bool ((before.take k).any fun y => y.tr == x.tr))), (18, .p (evs before)), (19, i64 before.length), (20, i64 k)]) (fun _ => [(0, h.blk), (1, x.blk)]) 2
    (fun k => k ≤ before.length ∧ (before.take k).any (fun y => y.tr == x.tr && ended y) = false) (fun k => before.length - k) 0 [] ⟨Nat.zero_le _, by simp⟩ ⟨rfl, by simp, ?_, ?_⟩ ?_
  · exact leSlots_cons (DLeT.refl _ _) rfl (leSlots_cons (DLeT.refl _ _) rfl (leSlots_cons (DLeT.refl _ _) rfl (leSlots_cons ((DLe.p (by simp)).t _) rfl (leSlots_cons (DLeT.refl _ _) rfl (leSlots_cons ((DLe.p (by simp)).t _) rfl (leSlots_cons (DLeT.refl _ _) rfl leSlots_nil))))))
  · exact leHeap_cons rfl (BLeT.refl _) rfl rfl (leHeap_cons rfl (BLeT.refl _) rfl rfl leHeap_nil)
  · rintro k ⟨hk, hp⟩ R hR
    conv => whnf
    refine condB_split (fun h3 => ?_) (fun h3 => ?_)
    · have h3 : k < before.length := by simpa using h3
      conv => whnf
      refine getP_intro before[k].enc (by omega) (by simpa using evs_get h3) ?_
      conv => whnf
      refine condB_split (fun h4 => ?_) (fun h4 => ?_)
      · have h4 : before[k].tr = x.tr := by simpa using h4
        conv => whnf
        refine (ended_ac before[k]).callP ⟨DLe.refl _, trivial⟩ ?_
        conv => whnf
        refine condB_split (fun h5 => ?_) (fun h5 => ?_)
        · conv => whnf
          refine DoneLe.p ?_
          have : before.any (fun y => y.tr == x.tr && ended y) = true := List.any_eq_true.2 ⟨_, List.getElem_mem h3, by simp [h4, h5]⟩
          simp [rightB, hg, this]
        · conv => whnf
          refine wrapP_intro (wrap64 (by omega) (by omega)) ?_
          conv => whnf
          refine hR _ _ _ (k + 1) ⟨h3, ?_⟩ (by omega) ⟨rfl, by simp, ?_, ?_⟩
          · rw [List.take_succ_eq_append_getElem h3, List.any_append, hp]; simp [h5]
          · exact leSlots_cons (DLeT.refl _ _) rfl (leSlots_cons (DLeT.refl _ _) rfl (leSlots_cons (DLeT.refl _ _) rfl (leSlots_cons ((DLe.p (by rw [List.take_succ_eq_append_getElem h3, List.any_append]; simp [h4])).t _) rfl (leSlots_cons (DLeT.refl _ _) rfl (leSlots_cons (DLeT.refl _ _) rfl (leSlots_cons ((DLe.p (by simp)).t _) rfl leSlots_nil))))))
          · exact leHeap_cons rfl (BLeT.refl _) rfl rfl (leHeap_cons rfl (BLeT.refl _) rfl rfl leHeap_nil)
      · have h4 : ¬ before[k].tr = x.tr := by simpa using h4
        conv => whnf
        refine wrapP_intro (wrap64 (by omega) (by omega)) ?_
        conv => whnf
        refine hR _ _ _ (k + 1) ⟨h3, ?_⟩ (by omega) ⟨rfl, by simp, ?_, ?_⟩
        · rw [List.take_succ_eq_append_getElem h3, List.any_append, hp]; simp [h4]
        · exact leSlots_cons (DLeT.refl _ _) rfl (leSlots_cons (DLeT.refl _ _) rfl (leSlots_cons (DLeT.refl _ _) rfl (leSlots_cons ((DLe.p (by rw [List.take_succ_eq_append_getElem h3, List.any_append]; simp [h4])).t _) rfl (leSlots_cons (DLeT.refl _ _) rfl (leSlots_cons (DLeT.refl _ _) rfl (leSlots_cons ((DLe.p (by simp)).t _) rfl leSlots_nil))))))
        · exact leHeap_cons rfl (BLeT.refl _) rfl rfl (leHeap_cons rfl (BLeT.refl _) rfl rfl leHeap_nil)
    · have hkl : k = before.length := by simp at h3; omega
      subst hkl
      rw [List.take_length] at hp
      clear hR
      conv => whnf
      rw [List.take_length]
      refine condB_split (fun h4 => ?_) (fun h4 => ?_)
      · conv => whnf
        refine DoneLe.p ?_
        simp only [← bd] at h4
        simp only [rightB, if_neg hg, hp, h4]
        rfl
      simp only [← bd] at h4
      have hr : rightB h before x = (if x.kind = 5 ∨ x.kind = 3 ∨ x.kind = 4 then x.key == 0 && x.value == 0 && x.fr == 0
          else if x.kind = 2 then decide (0 ≤ x.key ∧ x.key < h.start.length) && x.fr == 0
          else if x.kind = 1 then decide (0 ≤ x.key ∧ x.key < h.start.length) && readsB h before x
          else false) := by
        simp only [rightB, if_neg hg, hp, h4]
        rfl
      rw [hr]
      clear hr h4 hp
      conv => whnf
      iterate 8 (all_goals (try (refine condB_split (fun h4 => ?_) (fun h4 => ?_) <;> conv => whnf)))
      all_goals first
        | (refine DoneLe.p ?_; simp_all [bd]; done)
        | (refine DoneLe.p ?_; simp_all [bd]; omega)
        | (refine DoneLe.p ?_; simp_all [bd]; intros; omega)
        | (refine (reads_ac h before x (by simp_all) (by simp_all) hlen).callP ⟨DLe.refl _, DLe.refl _, DLe.refl _, trivial⟩ ?_
           conv => whnf
           refine DoneLe.p ?_
           simp_all [bd]; done)
        | skip
end Qa.S43

set_option maxRecDepth 100000
namespace Qa.S43
open Go Go.Proofs

def validB (h : Hist) : Bool :=
  decide (h.start.length ≤ 6) && decide (h.events.length ≤ 200) && (List.range h.events.length).all fun i => match h.events[i]? with | some x => rightB h (h.events.take i) x | none => true

theorem evs_cells {l : List Ev} : ∀ x ∈ l.map Ev.enc, x.cells.length = 5 := fun x hx => by
  obtain ⟨e, _, rfl⟩ := List.mem_map.1 hx
  rfl

theorem valid_ac (h : Hist) : AC Try.prog 9 [.p h.enc] [] (.p (.bool (validB h))) [] := by
  refine AC.body T_ok mx_ok Try.func9 rfl rfl rfl rfl rfl rfl ?_
  conv => whnf
  refine condB_split (fun h1 => ?_) (fun h1 => ?_)
  · conv => whnf
    refine DoneLe.p ?_
    have h1 : ¬ h.start.length ≤ 6 := by simp at h1; omega
    simp [validB, h1]
  have h1 : h.start.length ≤ 6 := by simp at h1; omega
  conv => whnf
  refine condB_split (fun h2 => ?_) (fun h2 => ?_)
  · conv => whnf
    refine DoneLe.p ?_
    have h2 : ¬ h.events.length ≤ 200 := by simp at h2; omega
    simp [validB, h2]
  have h2 : h.events.length ≤ 200 := by simp at h2; omega
  conv => whnf
  refine loop_fam (ι := Nat) (fun k => [(1, .ref 0 0), (16, .p (evs h.events)), (17, i64 h.events.length), (18, i64 k)]) (fun _ => [(0, h.blk)]) 1
    (fun k => k ≤ h.events.length ∧ ∀ i, i < k → ∀ x, h.events[i]? = some x → rightB h (h.events.take i) x = true) (fun k => h.events.length - k) 0 [] ⟨Nat.zero_le _, by omega⟩ ⟨rfl, by simp, ?_, ?_⟩ ?_
  · exact leSlots_cons (DLeT.refl _ _) rfl (leSlots_cons (DLeT.refl _ _) rfl (leSlots_cons ((DLe.p (by simp)).t _) rfl (leSlots_cons (DLeT.refl _ _) rfl leSlots_nil)))
  · exact leHeap_cons rfl (BLeT.refl _) rfl rfl leHeap_nil
  · rintro k ⟨hk, hp⟩ R hR
    conv => whnf
    refine condB_split (fun h3 => ?_) (fun h3 => ?_)
    · have h3 : k < h.events.length := by simpa using h3
      conv => whnf
      refine getP_intro h.events[k].enc (by omega) (by simpa using evs_get h3) ?_
      conv => whnf
      refine needP_intro ⟨by omega, by omega, by simp; omega, evs_cells⟩ ?_
      conv => whnf
      refine (right_ac h (h.events.take k) h.events[k] (by simp; omega) (by omega)).callP ⟨DLe.refl _, DLe.p (by simp [evs, List.map_take]), DLe.refl _, trivial⟩ ?_
      conv => whnf
      refine needP_intro (by kernel_rfl) ?_
      conv => whnf
      refine condB_split (fun h4 => ?_) (fun h4 => ?_)
      · conv => whnf
        refine DoneLe.p ?_
        have h4 : rightB h (h.events.take k) h.events[k] = false := by simpa using h4
        have : ¬ ((List.range h.events.length).all fun i => match h.events[i]? with | some x => rightB h (h.events.take i) x | none => true) = true := by
          rw [List.all_eq_true]
          intro ha
          have := ha k (by simpa using h3)
          rw [List.getElem?_eq_getElem h3] at this
          have this : rightB h (h.events.take k) h.events[k] = true := this
          rw [h4] at this
          cases this
        simp only [validB, Bool.not_eq_true] at this ⊢
        rw [this]; simp
      · have h4 : rightB h (h.events.take k) h.events[k] = true := by simpa using h4
        conv => whnf
        refine wrapP_intro (wrap64 (by omega) (by omega)) ?_
        conv => whnf
        refine hR _ _ _ (k + 1) ⟨h3, fun i hi x hx => ?_⟩ (by omega) ⟨rfl, by simp, ?_, ?_⟩
        · by_cases hik : i < k
          · exact hp i hik x hx
          · have : i = k := by omega
            subst this
            rw [List.getElem?_eq_getElem h3] at hx
            cases hx; exact h4
        · exact leSlots_cons (DLeT.refl _ _) rfl (leSlots_cons (DLeT.refl _ _) rfl (leSlots_cons (DLeT.refl _ _) rfl (leSlots_cons ((DLe.p (by simp)).t _) rfl leSlots_nil)))
        · exact leHeap_cons rfl (BLeT.refl _) rfl rfl leHeap_nil
    · have h3 : k = h.events.length := by simp at h3; omega
      subst h3
      conv => whnf
      refine DoneLe.p ?_
      have : ((List.range h.events.length).all fun i => match h.events[i]? with | some x => rightB h (h.events.take i) x | none => true) = true := by
        rw [List.all_eq_true]
        intro i hi
        have hi : i < h.events.length := by simpa using hi
        rw [List.getElem?_eq_getElem hi]
        exact hp i hi _ (List.getElem?_eq_getElem hi)
      simp [validB, h1, h2, this]
end Qa.S43

set_option maxRecDepth 100000
namespace Qa.S43
open Go Go.Proofs

def Hist.ok (h : Hist) : Prop := h.start.length ≤ 6 ∧ h.events.length ≤ 200 ∧ ∀ e ∈ h.events, 0 ≤ e.tr ∧ e.tr < 5

theorem valid_ok {h : Hist} (hv : validB h = true) : h.ok := by
  simp only [validB, Bool.and_eq_true, decide_eq_true_eq, List.all_eq_true, List.mem_range] at hv
  obtain ⟨⟨h1, h2⟩, h3⟩ := hv
  refine ⟨h1, h2, fun e he => ?_⟩
  obtain ⟨i, hi⟩ := List.getElem?_of_mem he
  have := h3 i (List.getElem?_eq_some_iff.1 hi).1
  rw [hi] at this
  have this : rightB h (h.events.take i) e = true := this
  unfold rightB at this
  split at this
  · cases this
  · omega

def bools (f : Nat → Bool) : List Pd := [.bool (f 0), .bool (f 1), .bool (f 2), .bool (f 3), .bool (f 4)]
def boolsD (f : Nat → Bool) : List D := [.p (.bool (f 0)), .p (.bool (f 1)), .p (.bool (f 2)), .p (.bool (f 3)), .p (.bool (f 4))]

theorem boolsD_set (f : Nat → Bool) (i : Nat) (hi : i < 5) (b : Bool) : (boolsD f).set i (.p (.bool b)) = boolsD (fun t => if t = i then b else f t) := by
  match i, hi with
  | 0, _ | 1, _ | 2, _ | 3, _ | 4, _ => simp [boolsD]

def doneF (l : List Ev) (t : Nat) : Bool := l.any fun e => e.kind == 3 && e.tr == (t : Int)

theorem committed_ac (h : Hist) (hv : h.ok) : AC Try.prog 39 [.p h.enc] [] (.p (.agg (bools (doneF h.events)))) [] := by
  obtain ⟨_, hl, hv⟩ := hv
  refine AC.body T_ok mx_ok Try.func39 rfl rfl rfl rfl rfl rfl ?_
  conv => whnf
  refine loop_fam (ι := Nat) (fun k => [(2, .ref 1 0), (3, .ref 2 0), (7, .p (evs h.events)), (8, i64 h.events.length), (9, i64 k)]) (fun k => [(0, h.blk), (1, .cells 83 (boolsD fun _ => false)), (2, .cells 83 (boolsD (doneF (h.events.take k))))]) 3
    (fun k => k ≤ h.events.length) (fun k => h.events.length - k) 0 [] (Nat.zero_le _) ⟨rfl, by simp, ?_, ?_⟩ ?_
  · exact leSlots_cons (DLeT.refl _ _) rfl (leSlots_cons (DLeT.refl _ _) rfl (leSlots_cons (DLeT.refl _ _) rfl (leSlots_cons ((DLe.p (by simp)).t _) rfl (leSlots_cons (DLeT.refl _ _) rfl leSlots_nil))))
  · exact leHeap_cons rfl (BLeT.refl _) rfl rfl (leHeap_cons rfl (BLeT.refl _) rfl rfl (leHeap_cons rfl (BLeT.refl _) rfl rfl leHeap_nil))
  · rintro k hk R hR
    conv => whnf
    refine condB_split (fun h3 => ?_) (fun h3 => ?_)
    · have h3 : k < h.events.length := by simpa using h3
      have hr := hv _ (List.getElem_mem h3)
      conv => whnf
      refine getP_intro h.events[k].enc (by omega) (by simpa using evs_get h3) ?_
      conv => whnf
      refine condB_split (fun h4 => ?_) (fun h4 => ?_)
      · have h4 : h.events[k].kind = 3 := by simpa using h4
        conv => whnf
        refine needP_intro ⟨by omega, by omega⟩ ?_
        conv => whnf
        refine needP_intro (by show _ < 5; omega) ?_
        conv => whnf
        refine wrapP_intro (wrap64 (by omega) (by omega)) ?_
        conv => whnf
        refine hR _ _ _ (k + 1) h3 (by omega) ⟨rfl, by simp, ?_, ?_⟩
        · exact leSlots_cons (DLeT.refl _ _) rfl (leSlots_cons (DLeT.refl _ _) rfl (leSlots_cons (DLeT.refl _ _) rfl (leSlots_cons ((DLe.p (by simp)).t _) rfl (leSlots_cons (DLeT.refl _ _) rfl leSlots_nil))))
        · refine leHeap_cons rfl (BLeT.refl _) rfl rfl (leHeap_cons rfl (BLeT.refl _) rfl rfl (leHeap_cons rfl (BLeT.eq ?_) rfl rfl leHeap_nil))
          show Blk.cells 83 ((boolsD (doneF (h.events.take k))).set (0 + h.events[k].tr.toNat * 1) (.p (.bool true))) = _
          rw [boolsD_set _ _ (by omega)]
          congr 2
          funext t
          rw [List.take_succ_eq_append_getElem h3]
          simp only [doneF, List.any_append, List.any_cons, List.any_nil, Bool.or_false, h4]
          by_cases ht : t = 0 + h.events[k].tr.toNat * 1
          · rw [if_pos ht]
            have : h.events[k].tr = (t : Int) := by omega
            simp [this]
          · rw [if_neg ht]
            have : ¬ h.events[k].tr = (t : Int) := by omega
            simp [this]
      · have h4 : ¬ h.events[k].kind = 3 := by simpa using h4
        conv => whnf
        refine wrapP_intro (wrap64 (by omega) (by omega)) ?_
        conv => whnf
        refine hR _ _ _ (k + 1) h3 (by omega) ⟨rfl, by simp, ?_, ?_⟩
        · exact leSlots_cons (DLeT.refl _ _) rfl (leSlots_cons (DLeT.refl _ _) rfl (leSlots_cons (DLeT.refl _ _) rfl (leSlots_cons ((DLe.p (by simp)).t _) rfl (leSlots_cons (DLeT.refl _ _) rfl leSlots_nil))))
        · refine leHeap_cons rfl (BLeT.refl _) rfl rfl (leHeap_cons rfl (BLeT.refl _) rfl rfl (leHeap_cons rfl (BLeT.eq ?_) rfl rfl leHeap_nil))
          congr 2
          funext t
          rw [List.take_succ_eq_append_getElem h3]
          simp only [doneF, List.any_append, List.any_cons, List.any_nil, Bool.or_false]
          simp [h4]
    · have hkl : k = h.events.length := by simp at h3; omega
      subst hkl
      conv => whnf
      refine DoneLe.p ?_
      rw [List.take_length]
      rfl
end Qa.S43

set_option maxRecDepth 100000
namespace Qa.S43
open Go Go.Proofs

theorem ints_get {l : List Int} {k : Nat} (h : k < l.length) : (l.map (Pd.int .i64))[k]? = some (.int .i64 (l[k]'h)) := by
  rw [List.getElem?_map, List.getElem?_eq_getElem h]; rfl

def idx (l : List Int) (x : Int) : Int := match l.findIdx? (· == x) with | some k => k | none => -1

theorem index_ac (l : List Int) (x : Int) (hlen : l.length ≤ 1000000) : AC Try.prog 48 [.p (ints l), i64 x] [] (i64 (idx l x)) [] := by
  refine AC.body T_ok mx_ok Try.func48 rfl rfl rfl rfl rfl rfl ?_
  conv => whnf
  refine loop_fam (ι := Nat) (fun k => [(0, .p (ints l)), (1, i64 x), (7, i64 l.length), (8, i64 k)]) (fun _ => []) 0 (fun k => k ≤ l.length ∧ ∀ e ∈ l.take k, ¬ e = x) (fun k => l.length - k) 0 []
    ⟨Nat.zero_le _, by simp⟩ ⟨rfl, by simp, ?_, ?_⟩ ?_
  · exact leSlots_cons (DLeT.refl _ _) rfl (leSlots_cons (DLeT.refl _ _) rfl (leSlots_cons ((DLe.p (by simp)).t _) rfl (leSlots_cons (DLeT.refl _ _) rfl leSlots_nil)))
  · exact leHeap_nil
  · rintro k ⟨hk, hp⟩ R hR
    conv => whnf
    refine condB_split (fun h => ?_) (fun h => ?_)
    · have h : k < l.length := by simpa using h
      conv => whnf
      refine getP_intro (.int .i64 l[k]) (by omega) (by simp) ?_
      conv => whnf
      refine condB_split (fun h2 => ?_) (fun h2 => ?_)
      · have h2 : x = l[k] := by simpa using h2
        conv => whnf
        refine DoneLe.p ?_
        have : l.findIdx? (· == x) = some k := by
          rw [List.findIdx?_eq_some_iff_getElem]
          refine ⟨h, by simp [h2], fun j hj => ?_⟩
          have := hp (l[j]'(by omega)) (List.mem_take_iff_getElem.2 ⟨j, by omega, rfl⟩)
          simpa using this
        simp only [idx, this]
      · have h2 : ¬ x = l[k] := by simpa using h2
        conv => whnf
        refine wrapP_intro (wrap64 (by omega) (by omega)) ?_
        conv => whnf
        refine hR _ _ _ (k + 1) ⟨h, fun e he => ?_⟩ (by omega) ⟨rfl, by simp, ?_, ?_⟩
        · rw [List.take_succ_eq_append_getElem h] at he
          rcases List.mem_append.1 he with he | he
          · exact hp e he
          · simp at he; subst he; exact fun e => h2 e.symm
        · exact leSlots_cons (DLeT.refl _ _) rfl (leSlots_cons (DLeT.refl _ _) rfl (leSlots_cons (DLeT.refl _ _) rfl (leSlots_cons ((DLe.p (by simp)).t _) rfl leSlots_nil)))
        · exact leHeap_nil
    · have h : ¬ k < l.length := by simpa using h
      conv => whnf
      refine DoneLe.p ?_
      have : l.findIdx? (· == x) = none := by
        rw [List.findIdx?_eq_none_iff]
        intro e he
        simpa using hp e (by rw [show k = l.length by omega, List.take_length]; exact he)
      simp only [idx, this]

theorem contains_ac (l : List Int) (x : Int) (hlen : l.length ≤ 1000000) : AC Try.prog 29 [.p (ints l), i64 x] [] (.p (.bool (l.contains x))) [] := by
  refine AC.body T_ok mx_ok Try.func29 rfl rfl rfl rfl rfl rfl ?_
  conv => whnf
  refine (index_ac l x hlen).callP ⟨DLe.refl _, DLe.refl _, trivial⟩ ?_
  conv => whnf
  refine DoneLe.p ?_
  congr 1
  cases h : l.findIdx? (· == x) with
  | none =>
    have h2 : ¬ x ∈ l := by
      rw [List.findIdx?_eq_none_iff] at h
      intro hx; have := h x hx; simp at this
    simp [idx, h, h2]
  | some k =>
    have h2 : x ∈ l := by
      rw [List.findIdx?_eq_some_iff_getElem] at h
      obtain ⟨h1, h3, _⟩ := h
      have h3 : l[k] = x := by simpa using h3
      exact h3 ▸ List.getElem_mem h1
    simp [idx, h, h2]
end Qa.S43

set_option maxRecDepth 100000
namespace Qa.S43
open Go Go.Proofs

theorem versions1_ac (x : Ev) (t : Int) : AC Try.prog 79 [i64 t, .ref 0 0] [x.blk] (.p (.bool (t == x.tr))) [x.blk] := by
  refine AC.body T_ok mx_ok Try.func79 rfl rfl rfl rfl rfl rfl ?_
  conv => whnf
  refine DoneLe.mk [0] rfl rfl (ldHeap_cons rfl (BLe.refl _) rfl ldHeap_nil) (DLe.p ?_) rfl rfl
  simp [bd]

def vecI (v : Nat) (l : List Int) : Blk := .vec 3 1 v (l.map (.int .i64))

theorem indexI_ac (l : List Int) (v g : Nat) (B : Blk) (p : Int → Bool) (hu : B.under (below 1) = true) (hB : ∀ σ, B.ren σ = B)
    (hg : ∀ e, AC Try.prog g [i64 e, .ref 0 0] [B] (.p (.bool (p e))) [B]) (hlen : l.length ≤ 1000000) :
    AC Try.prog 86 [.vec 0 v 1 0 l.length, .fn g [] [.ref 1 0]] [vecI v l, B] (i64 (match l.findIdx? p with | some k => (k : Int) | none => -1)) [vecI v l, B] := by
  have hu2 : B.under (below 2) = true := Blk.under_le (below_le (by omega)) B hu
  refine AC.body T_ok mx_ok Try.func86 rfl rfl rfl rfl rfl rfl ?_
  conv => whnf
  refine loop_fam (ι := Nat) (fun k => [(0, .vec 0 v 1 0 l.length), (1, .fn g [] [.ref 1 0]), (7, i64 l.length), (8, i64 k)]) (fun _ => [(0, vecI v l), (1, B)]) 2 (fun k => k ≤ l.length ∧ ∀ e ∈ l.take k, p e = false) (fun k => l.length - k) 0 []
    ⟨Nat.zero_le _, by simp⟩ ⟨rfl, by simp, ?_, ?_⟩ ?_
  · exact leSlots_cons (DLeT.refl _ _) rfl (leSlots_cons (DLeT.refl _ _) rfl (leSlots_cons (DLeT.refl _ _) rfl (leSlots_cons (DLeT.refl _ _) rfl leSlots_nil)))
  · exact leHeap_cons rfl (BLeT.refl _) rfl rfl (leHeap_cons rfl (BLeT.refl _) rfl hu2 leHeap_nil)
  · rintro k ⟨hk, hp⟩ R hR
    conv => whnf
    refine condB_split (fun h => ?_) (fun h => ?_)
    · have h : k < l.length := by simpa using h
      conv => whnf
      refine needP_intro ⟨rfl, by omega, by omega⟩ ?_
      conv => whnf
      refine needP_intro rfl ?_
      refine getP_intro (.int .i64 l[k]) (by omega) (by simp [h]) ?_
      conv => whnf
      refine (hg l[k]).call [1] rfl ⟨DLe.refl _, DLe.refl _, trivial⟩ (ldHeap_cons rfl (BLe.eq (hB _).symm) hu ldHeap_nil) ?_
      conv => whnf
      refine condB_split (fun h2 => ?_) (fun h2 => ?_)
      · conv => whnf
        refine DoneLe.mk [0, 1] rfl rfl (ldHeap_cons rfl (BLe.refl _) rfl (ldHeap_cons rfl (BLe.eq ((hB _).trans (hB _).symm)) hu2 ldHeap_nil)) (DLe.p ?_) rfl rfl
        have : l.findIdx? p = some k := by
          rw [List.findIdx?_eq_some_iff_getElem]
          refine ⟨h, h2, fun j hj => ?_⟩
          have := hp (l[j]'(by omega)) (List.mem_take_iff_getElem.2 ⟨j, by omega, rfl⟩)
          simp [this]
        rw [this]
      · conv => whnf
        refine wrapP_intro (wrap64 (by omega) (by omega)) ?_
        conv => whnf
        refine hR _ _ _ (k + 1) ⟨h, fun e he => ?_⟩ (by omega) ⟨rfl, by simp, ?_, ?_⟩
        · rw [List.take_succ_eq_append_getElem h] at he
          rcases List.mem_append.1 he with he | he
          · exact hp e he
          · simp at he; subst he; exact h2
        · exact leSlots_cons (DLeT.refl _ _) rfl (leSlots_cons (DLeT.refl _ _) rfl (leSlots_cons (DLeT.refl _ _) rfl (leSlots_cons (DLeT.refl _ _) rfl leSlots_nil)))
        · exact leHeap_cons rfl (BLeT.refl _) rfl rfl (leHeap_cons rfl (BLeT.eq (hB _)) rfl hu2 leHeap_nil)
    · have h : ¬ k < l.length := by simpa using h
      conv => whnf
      refine DoneLe.mk [0, 1] rfl rfl (ldHeap_cons rfl (BLe.refl _) rfl (ldHeap_cons rfl (BLe.eq (hB _).symm) hu2 ldHeap_nil)) (DLe.p ?_) rfl rfl
      have : l.findIdx? p = none := by
        rw [List.findIdx?_eq_none_iff]
        intro e he
        exact hp e (by rw [show k = l.length by omega, List.take_length]; exact he)
      rw [this]
end Qa.S43

set_option maxRecDepth 100000
namespace Qa.S43
open Go Go.Proofs

def keep (p : Int → Bool) (l : List Int) : List Int := l.filter fun x => !p x

theorem keep_take_succ {p : Int → Bool} {l : List Int} {k : Nat} (h : k < l.length) : keep p (l.take (k + 1)) = keep p (l.take k) ++ (if p l[k] then [] else [l[k]]) := by
  rw [List.take_succ_eq_append_getElem h]
  simp only [keep, List.filter_append]
  cases hp : p l[k] <;> simp [hp]

theorem keep_len (p : Int → Bool) (l : List Int) (k : Nat) : (keep p (l.take k)).length ≤ k := by
  have h1 : (keep p (l.take k)).length ≤ (l.take k).length := List.length_filter_le _ _
  simp at h1; omega

/-- what DeleteFunc leaves. -/
def delV (p : Int → Bool) (l : List Int) : List Int := keep p l ++ List.replicate (l.length - (keep p l).length) 0

theorem delete_ac (l : List Int) (v g : Nat) (B : Blk) (p : Int → Bool) (hu : B.under (below 1) = true) (hB : ∀ σ, B.ren σ = B)
    (hg : ∀ e, AC Try.prog g [i64 e, .ref 0 0] [B] (.p (.bool (p e))) [B]) (hlen : l.length ≤ 1000000) :
    AC Try.prog 78 [.vec 0 v 1 0 l.length, .fn g [] [.ref 1 0]] [vecI v l, B] (.vec 0 v 1 0 (keep p l).length) [vecI v (delV p l), B] := by
  have hu2 : B.under (below 2) = true := Blk.under_le (below_le (by omega)) B hu
  refine AC.body T_ok mx_ok Try.func78 rfl rfl rfl rfl rfl rfl ?_
  conv => whnf
  refine (indexI_ac l v g B p hu hB hg hlen).call [0, 1] rfl ⟨DLe.refl _, DLe.refl _, trivial⟩ (ldHeap_cons rfl (BLe.refl _) rfl (ldHeap_cons rfl (BLe.eq (hB _).symm) hu2 ldHeap_nil)) ?_
  conv => whnf
  refine condB_split (fun h => ?_) (fun h => ?_)
  · have hn : l.findIdx? p = none := by
      cases hq : l.findIdx? p with
      | none => rfl
      | some k => rw [hq] at h; simp at h
    have hk : keep p l = l := by
      rw [List.findIdx?_eq_none_iff] at hn
      exact List.filter_eq_self.2 fun x hx => by simp [hn x hx]
    have hd : delV p l = l := by simp [delV, hk]
    rw [hd, hk]
    conv => whnf
    exact DoneLe.mk [0, 1] rfl rfl (ldHeap_cons rfl (BLe.refl _) rfl (ldHeap_cons rfl (BLe.eq ((hB _).trans (hB _).symm)) hu2 ldHeap_nil)) (DLe.refl _) rfl rfl
  · obtain ⟨k0, hq⟩ : ∃ k, l.findIdx? p = some k := by
      cases hq : l.findIdx? p with
      | none => rw [hq] at h; simp at h
      | some k => exact ⟨k, rfl⟩
    rw [hq]
    rw [List.findIdx?_eq_some_iff_getElem] at hq
    obtain ⟨hk0, hpk, hbef⟩ := hq
    have hkeep : keep p (l.take k0) = l.take k0 := List.filter_eq_self.2 fun x hx => by
      obtain ⟨i, hi, rfl⟩ := List.mem_take_iff_getElem.1 hx
      have := hbef i (by omega)
      simpa using this
    have hkeep1 : keep p (l.take (k0 + 1)) = l.take k0 := by rw [keep_take_succ hk0, hkeep]; simp [hpk]
    conv => whnf
    refine wrapP_intro (wrap64 (by show _ ≤ (k0 : Int) + 1; omega) (by show (k0 : Int) + 1 ≤ _; omega)) ?_
    conv => whnf
    refine loop_fam (ι := Nat × List Int) (fun s => [(0, .vec 0 v 1 0 l.length), (1, .fn g [] [.ref 1 0]), (5, i64 (keep p (l.take s.1)).length), (6, i64 s.1)]) (fun s => [(0, vecI v s.2), (1, B)]) 2
      (fun s => s.1 ≤ l.length ∧ s.2.length = l.length ∧ s.2.drop s.1 = l.drop s.1 ∧ s.2.take (keep p (l.take s.1)).length = keep p (l.take s.1)) (fun s => l.length - s.1) (k0 + 1, l) []
      ⟨hk0, rfl, rfl, by rw [hkeep1]; simp⟩ ⟨rfl, by simp, ?_, ?_⟩ ?_
    · exact leSlots_cons (DLeT.refl _ _) rfl (leSlots_cons (DLeT.refl _ _) rfl (leSlots_cons ((DLe.p (by rw [hkeep1]; simp; omega)).t _) rfl (leSlots_cons ((DLe.p (by simp)).t _) rfl leSlots_nil)))
    · exact leHeap_cons rfl (BLeT.refl _) rfl rfl (leHeap_cons rfl (BLeT.eq (hB _)) rfl hu2 leHeap_nil)
    · rintro ⟨k, c⟩ ⟨hk, hc, hd, ht⟩ R hR
      simp only at hk hc hd ht
      have hkl := keep_len p l k
      conv => whnf
      refine condB_split (fun h => ?_) (fun h => ?_)
      · have h : k < l.length := by simpa using h
        conv => whnf
        refine needP_intro ⟨rfl, by omega, by omega⟩ ?_
        conv => whnf
        refine needP_intro rfl ?_
        have hck : c[k]'(by omega) = l[k] := by
          have := congrArg (fun q => q[0]?) hd
          simp [h, show k < c.length by omega] at this
          exact this
        refine getP_intro (.int .i64 l[k]) (by omega) (by simp [show k < c.length by omega, hck]) ?_
        conv => whnf
        refine (hg l[k]).call [1] rfl ⟨DLe.refl _, DLe.refl _, trivial⟩ (ldHeap_cons rfl (BLe.eq (hB _).symm) hu ldHeap_nil) ?_
        conv => whnf
        refine condB_split (fun h2 => ?_) (fun h2 => ?_)
        · have h2 : p l[k] = false := by simpa using h2
          conv => whnf
          refine needP_intro ⟨rfl, by omega, by dsimp only; omega⟩ ?_
          conv => whnf
          refine needP_intro ⟨rfl, by show 0 + ((keep p (l.take k)).length : Int).toNat < (c.map (Pd.int .i64)).length; rw [List.length_map, hc]; omega, rfl⟩ ?_
          conv => whnf
          refine wrapP_intro (wrap64 (by first | omega | (dsimp only; omega)) (by first | omega | (dsimp only; omega))) ?_
          conv => whnf
          refine wrapP_intro (wrap64 (by first | omega | (dsimp only; omega)) (by first | omega | (dsimp only; omega))) ?_
          conv => whnf
          have hks : keep p (l.take (k + 1)) = keep p (l.take k) ++ [l[k]] := by rw [keep_take_succ h]; simp [h2]
          refine hR _ _ _ (k + 1, c.set (keep p (l.take k)).length l[k]) ⟨h, by simp [hc], ?_, ?_⟩ (by simp only; omega) ⟨rfl, by simp, ?_, ?_⟩
          · simp only
            rw [List.drop_set_of_lt (by omega)]
            have := congrArg (fun q => q.drop 1) hd
            simpa using this
          · simp only [hks, List.length_append, List.length_singleton]
            rw [List.take_succ_eq_append_getElem (by simp; omega), List.take_set_of_le (Nat.le_refl _), ht]
            simp
          · exact leSlots_cons (DLeT.refl _ _) rfl (leSlots_cons (DLeT.refl _ _) rfl (leSlots_cons ((DLe.p (by rw [hks]; simp)).t _) rfl (leSlots_cons ((DLe.p (by simp)).t _) rfl leSlots_nil)))
          · refine leHeap_cons rfl (BLeT.eq ?_) rfl rfl (leHeap_cons rfl (BLeT.eq (hB _)) rfl hu2 leHeap_nil)
            simp [vecI, List.map_set]
        · have h2 : p l[k] = true := by simpa using h2
          conv => whnf
          refine wrapP_intro (wrap64 (by first | omega | (dsimp only; omega)) (by first | omega | (dsimp only; omega))) ?_
          conv => whnf
          have hks : keep p (l.take (k + 1)) = keep p (l.take k) := by rw [keep_take_succ h]; simp [h2]
          refine hR _ _ _ (k + 1, c) ⟨h, hc, ?_, ?_⟩ (by simp only; omega) ⟨rfl, by simp, ?_, ?_⟩
          · have := congrArg (fun q => q.drop 1) hd
            simpa using this
          · simp only [hks]; exact ht
          · exact leSlots_cons (DLeT.refl _ _) rfl (leSlots_cons (DLeT.refl _ _) rfl (leSlots_cons ((DLe.p (by rw [hks])).t _) rfl (leSlots_cons ((DLe.p (by simp)).t _) rfl leSlots_nil)))
          · exact leHeap_cons rfl (BLeT.refl _) rfl rfl (leHeap_cons rfl (BLeT.eq (hB _)) rfl hu2 leHeap_nil)
      · have h : k = l.length := by simp at h; omega
        subst h
        rw [List.take_length] at ht hkl
        conv => whnf
        rw [List.take_length]
        refine needP_intro ⟨rfl, by omega, by omega, by omega⟩ ?_
        conv => whnf
        refine needP_intro ⟨rfl, by simp; omega⟩ ?_
        conv => whnf
        refine needP_intro ⟨rfl, by omega, by omega, by omega⟩ ?_
        conv => whnf
        refine DoneLe.mk [0, 1] rfl rfl (ldHeap_cons rfl (BLe.eq ?_) rfl (ldHeap_cons rfl (BLe.eq (hB _).symm) hu2 ldHeap_nil)) (DLe.eq ?_) rfl rfl
        · have e : ((c.map (Pd.int .i64)).take (0 + ((keep p l).length : Int).toNat) ++ List.replicate (((l.length : Int)).toNat - ((keep p l).length : Int).toNat) (Pd.int .i64 0) ++
              (c.map (Pd.int .i64)).drop (0 + ((keep p l).length : Int).toNat + (((l.length : Int)).toNat - ((keep p l).length : Int).toNat))) = (delV p l).map (.int .i64) := by
            rw [List.drop_eq_nil_of_le (by simp; omega)]
            simp only [Int.toNat_natCast, Nat.zero_add, ← List.map_take, ht, delV, List.map_append, List.map_replicate, List.append_nil]
          exact congrArg (Blk.vec 3 1 v) e
        · show D.vec 0 v 1 (0 + (0 : Int).toNat) (((keep p l).length : Int).toNat - (0 : Int).toNat) = D.vec 0 v 1 0 (keep p l).length
          simp
end Qa.S43

set_option maxRecDepth 100000
namespace Qa.S43
open Go Go.Proofs

theorem boolsD_get (f : Nat → Bool) {i : Nat} (hi : i < 5) : (boolsD f)[i]? = some (.p (.bool (f i))) := by
  match i, hi with
  | 0, _ | 1, _ | 2, _ | 3, _ | 4, _ => rfl

def T2 : Ty := T.mut 22 2
theorem T2_ok : TyOk Try.prog T2 := T_ok.mut 22 2

def verStep (done : Nat → Bool) (key : Int) (out : List Int) (x : Ev) : List Int :=
  if x.kind = 2 ∧ x.key = key ∧ done x.tr.toNat = true then out.filter (fun t => !(t == x.tr)) ++ [x.tr] else out
def versionsL (h : Hist) (key : Int) : List Int := h.events.foldl (verStep (doneF h.events) key) [-1]

def verOut (h : Hist) (key : Int) (k : Nat) : List Int := (h.events.take k).foldl (verStep (doneF h.events) key) [-1]
theorem verOut_succ {h : Hist} {key : Int} {k : Nat} (hk : k < h.events.length) : verOut h key (k + 1) = verStep (doneF h.events) key (verOut h key k) h.events[k] := by
  simp only [verOut]
  rw [List.take_succ_eq_append_getElem hk, List.foldl_append]
  rfl

theorem verOut_len (h : Hist) (key : Int) (k : Nat) : (verOut h key k).length ≤ k + 1 := by
  have : ∀ (l : List Ev) (out : List Int), (l.foldl (verStep (doneF h.events) key) out).length ≤ out.length + l.length := by
    intro l
    induction l with
    | nil => intro out; simp
    | cons x l ih =>
      intro out
      have h1 := ih (verStep (doneF h.events) key out x)
      have h2 : (verStep (doneF h.events) key out x).length ≤ out.length + 1 := by
        unfold verStep
        split
        · have := List.length_filter_le (fun t => !(t == x.tr)) out
          simp only [List.length_append, List.length_singleton]; omega
        · omega
      simp only [List.foldl_cons, List.length_cons]; omega
  have h1 := this (h.events.take k) [-1]
  simp only [verOut, List.length_take, List.length_singleton] at h1 ⊢
  omega

theorem versions_ac (h : Hist) (hv : h.ok) (key : Int) : AC Try.prog 58 [.p h.enc, i64 key] [] (.p (ints (versionsL h key))) [] := by
  have hv0 := hv
  obtain ⟨_, hl, hv⟩ := hv
  refine AC.body T2_ok mx_ok Try.func58 rfl rfl rfl rfl rfl rfl ?_
  conv => whnf
  refine (committed_ac h hv0).callP ⟨DLe.refl _, trivial⟩ ?_
  conv => whnf
  refine needP_intro (fun x hx => by simp at hx; subst hx; rfl) ?_
  conv => whnf
  refine loop_fam (ι := Nat × Nat) (fun s => [(1, i64 key), (5, .ref 1 0), (6, .vec 2 s.2 1 0 (verOut h key s.1).length), (13, .p (evs h.events)), (14, i64 h.events.length), (15, i64 s.1)])
    (fun s => [(1, .cells 83 (boolsD (doneF h.events))), (2, vecI s.2 (verOut h key s.1))]) 3
    (fun s => s.1 ≤ h.events.length) (fun s => h.events.length - s.1) (0, 0) [] (Nat.zero_le _) ⟨rfl, by simp, ?_, ?_⟩ ?_
  · exact leSlots_cons (DLeT.refl _ _) rfl (leSlots_cons (DLeT.refl _ _) rfl (leSlots_cons (DLeT.refl _ _) rfl (leSlots_cons (DLeT.refl _ _) rfl (leSlots_cons ((DLe.p (by simp)).t _) rfl (leSlots_cons (DLeT.refl _ _) rfl leSlots_nil)))))
  · exact leHeap_cons rfl (BLeT.refl _) rfl rfl (leHeap_cons rfl (BLeT.refl _) rfl rfl leHeap_nil)
  · rintro ⟨k, v⟩ hk R hR
    simp only at hk
    conv => whnf
    refine condB_split (fun h3 => ?_) (fun h3 => ?_)
    · have h3 : k < h.events.length := by simpa using h3
      have hr := hv _ (List.getElem_mem h3)
      conv => whnf
      refine getP_intro h.events[k].enc (by dsimp only; omega) (by simpa using evs_get h3) ?_
      conv => whnf
      have back : ∀ (A' : Tmps) (H' : Heap) (nx' : Nat), verStep (doneF h.events) key (verOut h key k) h.events[k] = verOut h key k →
          leSt 0 [] nx' A' H' [(1, i64 key), (5, .ref 1 0), (6, .vec 2 v 1 0 (verOut h key k).length), (13, .p (evs h.events)), (14, i64 h.events.length), (15, i64 ((k : Int) + 1))]
            [(1, .cells 83 (boolsD (doneF h.events))), (2, vecI v (verOut h key k))] 3 → R A' H' nx' := fun A' H' nx' hs hle => by
        refine hR A' H' nx' (k + 1, v) h3 (by dsimp only; omega) ?_
        dsimp only
        rw [verOut_succ h3, hs]
        simpa using hle
      refine condB_split (fun h4 => ?_) (fun h4 => ?_)
      · have h4 : h.events[k].kind = 2 := by simpa using h4
        conv => whnf
        refine condB_split (fun h5 => ?_) (fun h5 => ?_)
        · have h5 : h.events[k].key = key := by simpa using h5
          conv => whnf
          refine needP_intro ⟨by omega, by omega⟩ ?_
          conv => whnf
          refine getD_intro (.p (.bool (doneF h.events h.events[k].tr.toNat))) (by rw [Nat.zero_add, Nat.mul_one]; exact boolsD_get _ (by omega)) ?_
          conv => whnf
          refine condB_split (fun h6 => ?_) (fun h6 => ?_)
          · have h6 : doneF h.events h.events[k].tr.toNat = true := by simpa using h6
            conv => whnf
            have hvl := verOut_len h key k
            refine (delete_ac (verOut h key k) v 79 h.events[k].blk (fun t => t == h.events[k].tr) rfl (fun _ => rfl) (versions1_ac _) (by omega)).callR [2, 3] [false, true] rfl ⟨DLe.refl _, DLe.refl _, trivial⟩
              (ldHeap_cons rfl (BLe.refl _) rfl (ldHeap_cons rfl (BLe.refl _) rfl ldHeap_nil)) (roOk_f (roOk_t rfl roOk_nil)) rfl ?_
            have hkl : (keep (fun t => t == h.events[k].tr) (verOut h key k)).length ≤ (verOut h key k).length := List.length_filter_le _ _
            conv => whnf
            refine needP_intro (fun x hx => by simp at hx; subst hx; rfl) ?_
            conv => whnf
            refine needP_intro ⟨rfl, by omega, by simp⟩ ?_
            refine needP_intro ⟨rfl, rfl, by simp [delV], by simp, fun y hy => by simp at hy; subst hy; rfl, by simp; omega⟩ ?_
            conv => whnf
            refine needP_intro (by kernel_rfl) ?_
            conv => whnf
            refine wrapP_intro (wrap64 (by dsimp only; omega) (by dsimp only; omega)) ?_
            conv => whnf
            have hs : verOut h key (k + 1) = keep (fun t => t == h.events[k].tr) (verOut h key k) ++ [h.events[k].tr] := by
              rw [verOut_succ h3]; simp [verStep, h4, h5, h6, keep]
            refine hR _ _ _ (k + 1, v + 1) h3 (by dsimp only; omega) ⟨rfl, by simp, ?_, ?_⟩
            · refine leSlots_cons (DLeT.refl _ _) rfl (leSlots_cons (DLeT.refl _ _) rfl (leSlots_cons ((DLe.eq ?_).t _) rfl (leSlots_cons (DLeT.refl _ _) rfl (leSlots_cons (DLeT.refl _ _) rfl (leSlots_cons ((DLe.p (by simp)).t _) rfl leSlots_nil)))))
              dsimp only
              rw [hs, List.length_append]
              rfl
            · refine leHeap_cons rfl (BLeT.refl _) rfl rfl (leHeap_cons rfl (BLeT.eq ?_) rfl rfl leHeap_nil)
              dsimp only
              rw [hs]
              have e : ((delV (fun t => t == h.events[k].tr) (verOut h key k)).map (Pd.int .i64)).take (keep (fun t => t == h.events[k].tr) (verOut h key k)).length ++ ([Pd.int .i64 h.events[k].tr].drop 0).take 1 =
                  (keep (fun t => t == h.events[k].tr) (verOut h key k) ++ [h.events[k].tr]).map (Pd.int .i64) := by
                rw [← List.map_take]
                simp [delV]
              exact congrArg (Blk.vec 3 1 (v + 1)) e
          · have h6 : doneF h.events h.events[k].tr.toNat = false := by simpa using h6
            conv => whnf
            refine wrapP_intro (wrap64 (by dsimp only; omega) (by dsimp only; omega)) ?_
            conv => whnf
            refine back _ _ _ (by simp [verStep, h6]) ⟨rfl, by simp, ?_, ?_⟩
            · exact leSlots_cons (DLeT.refl _ _) rfl (leSlots_cons (DLeT.refl _ _) rfl (leSlots_cons (DLeT.refl _ _) rfl (leSlots_cons (DLeT.refl _ _) rfl (leSlots_cons (DLeT.refl _ _) rfl (leSlots_cons (DLeT.refl _ _) rfl leSlots_nil)))))
            · exact leHeap_cons rfl (BLeT.refl _) rfl rfl (leHeap_cons rfl (BLeT.refl _) rfl rfl leHeap_nil)
        · have h5 : ¬ h.events[k].key = key := by simpa using h5
          conv => whnf
          refine wrapP_intro (wrap64 (by dsimp only; omega) (by dsimp only; omega)) ?_
          conv => whnf
          refine back _ _ _ (by simp [verStep, h5]) ⟨rfl, by simp, ?_, ?_⟩
          · exact leSlots_cons (DLeT.refl _ _) rfl (leSlots_cons (DLeT.refl _ _) rfl (leSlots_cons (DLeT.refl _ _) rfl (leSlots_cons (DLeT.refl _ _) rfl (leSlots_cons (DLeT.refl _ _) rfl (leSlots_cons (DLeT.refl _ _) rfl leSlots_nil)))))
          · exact leHeap_cons rfl (BLeT.refl _) rfl rfl (leHeap_cons rfl (BLeT.refl _) rfl rfl leHeap_nil)
      · have h4 : ¬ h.events[k].kind = 2 := by simpa using h4
        conv => whnf
        refine wrapP_intro (wrap64 (by dsimp only; omega) (by dsimp only; omega)) ?_
        conv => whnf
        refine back _ _ _ (by simp [verStep, h4]) ⟨rfl, by simp, ?_, ?_⟩
        · exact leSlots_cons (DLeT.refl _ _) rfl (leSlots_cons (DLeT.refl _ _) rfl (leSlots_cons (DLeT.refl _ _) rfl (leSlots_cons (DLeT.refl _ _) rfl (leSlots_cons (DLeT.refl _ _) rfl (leSlots_cons (DLeT.refl _ _) rfl leSlots_nil)))))
        · exact leHeap_cons rfl (BLeT.refl _) rfl rfl (leHeap_cons rfl (BLeT.refl _) rfl rfl leHeap_nil)
    · have hkl : k = h.events.length := by simp at h3; omega
      subst hkl
      conv => whnf
      refine DoneLe.freeze rfl (by simp) ?_
      refine DoneLe.p ?_
      have e : verOut h key h.events.length = versionsL h key := by rw [verOut, List.take_length]; rfl
      show Pd.list ((((verOut h key h.events.length).map (Pd.int .i64)).drop 0).take (verOut h key h.events.length).length) = _
      rw [e, List.drop_zero, List.take_of_length_le (by simp)]
      rfl
end Qa.S43
