/- The contracts of the library functions that these proofs call, laid by the kit's tool. No condition.
  DERIVED: THE SHELF's CONTRACTS AT THIS DUMP, IN PLAIN WORDS (tools/lay-plain.mjs out of 'TrydShelf.lean', which tools/lay-shelf.mjs wrote): THE SAME DECLARATIONS UNDER THE SAME NAMES: 'import', 'namespace', 'open', 'def', 'theorem' AND NOTHING ELSE: no command of the shelf's: FOR A HAND-IN. Each laying: the table of numbers ('.._ren') and one theorem, a field a fact of the dump's own or the kernel's comparison; each contract: ONE APPLICATION.
-/
import Derived.Shelf.Small.Utf8
import Derived.Shelf.Small.Bits
import Derived.Shelf.Small.Wraps
import Derived.Shelf.Utf8.AppendRune
import Derived.Shelf.Utf8.AppendRunePlain
import Derived.Shelf.Utf8.RuneCount
import Derived.Shelf.Strconv.Itoa0
import Derived.Shelf.Strings.Prefix
import Derived.Shelf.Unicode.Decode
import Derived.Shelf.Strings.RuneCount
import Derived.Shelf.Bits.Mul64
import Derived.Shelf.Unicode.DecodeSlow
import Derived.Shelf.Unicode.DecodeAny
import Derived.Ground.Names2Prog
import Derived.Shelf.Slices.SearchI
import Derived.Shelf.Unicode.ValidAny
import Derived.Shelf.SlSortCmp.NoneTotal
import Derived.Ground.SlsfProg
import Derived.Test.YtpccanadijefnaaDoorProg
namespace Go.Proofs
open Go.Shelf
def Tryd.lays119_ren : Go.Shelf.Ren := ⟨fun | 119 => 100 | n => n, fun | 21 => 21 | 4 => 4 | n => n, fun | n => n⟩
theorem Tryd.lays119 : Go.Proofs.Lays.n119 Tryd.prog Tryd.lays119_ren := {
  mixed := by kernel_rfl
  f119 := Tryd.func100.trans (congrArg some (by kernel_rfl))
  t4 := Tryd.underlying4
  a4 := Tryd.isAgg4
  z4 := Tryd.sizeOf4
  v4 := Tryd.zeroValue4
  t21 := Tryd.underlying21
  a21 := Tryd.isAgg21
  z21 := Tryd.sizeOf21
  v21 := Tryd.zeroValue21 }
/-- utf8.ValidRune: "ValidRune reports whether r can be legally encoded as UTF-8. Code points that are out of range or a surrogate half are illegal.": IT RETURNS 'Lib.validRune r'; the world is as it was. (LAID: no walk: one application.) -/
theorem Tryd.utf8_ValidRune (r : Int) (w : World) :
    Calls Tryd.prog 100 #[.int .i32 r] w fun e w' => e = .returned (.bool (Lib.validRune r)) ∧ w' = w := Any.utf8_ValidRune Tryd.lays119 r w
def Tryd.lays128_ren : Go.Shelf.Ren := ⟨fun | 128 => 157 | n => n, fun | 51 => 167 | 3 => 3 | 4 => 4 | 46 => 156 | 5 => 5 | 9 => 9 | n => n, fun | n => n⟩
theorem Tryd.lays128 : Go.Proofs.Lays.n128 Tryd.prog Tryd.lays128_ren := {
  mixed := by kernel_rfl
  f128 := Tryd.func157.trans (congrArg some (by kernel_rfl))
  t3 := Tryd.underlying3
  a3 := Tryd.isAgg3
  z3 := Tryd.sizeOf3
  v3 := Tryd.zeroValue3
  t4 := Tryd.underlying4
  a4 := Tryd.isAgg4
  z4 := Tryd.sizeOf4
  v4 := Tryd.zeroValue4
  t5 := Tryd.underlying5
  a5 := Tryd.isAgg5
  z5 := Tryd.sizeOf5
  v5 := Tryd.zeroValue5
  t9 := Tryd.underlying9
  a9 := Tryd.isAgg9
  z9 := Tryd.sizeOf9
  v9 := Tryd.zeroValue9
  t46 := Tryd.underlying156
  a46 := Tryd.isAgg156
  z46 := Tryd.sizeOf156
  v46 := Tryd.zeroValue156
  t51 := Tryd.underlying167
  a51 := Tryd.isAgg167
  z51 := Tryd.sizeOf167
  v51 := Tryd.zeroValue167 }
/-- bits.Len32: "Len32 returns the minimum number of bits required to represent x; the result is 0 for x == 0.": IT RETURNS 'Lib.bitLen x'; the world is as it was. ('h0', 'h1': x is a uint32.) (LAID: no walk: one application.) -/
theorem Tryd.bits_Len32 (x : Int) (w : World) (h0 : 0 ≤ x) (h1 : x ≤ 4294967295) :
    Calls Tryd.prog 157 #[.int .u32 x] w fun e w' => e = .returned (.int .i64 (Lib.bitLen x.toNat)) ∧ w' = w := Any.bits_Len32 Tryd.lays128 x w h0 h1
def Tryd.lays125_ren : Go.Shelf.Ren := ⟨fun | 125 => 118 | 128 => 157 | 129 => 158 | n => n, fun | 46 => 156 | 3 => 3 | 51 => 167 | 53 => 186 | 4 => 4 | 5 => 5 | 9 => 9 | n => n, fun | n => n⟩
theorem Tryd.lays125 : Go.Proofs.Lays.n125 Tryd.prog Tryd.lays125_ren := {
  mixed := by kernel_rfl
  f125 := Tryd.func118.trans (congrArg some (by kernel_rfl))
  f128 := Tryd.func157.trans (congrArg some (by kernel_rfl))
  f129 := Tryd.func158.trans (congrArg some (by kernel_rfl))
  t3 := Tryd.underlying3
  a3 := Tryd.isAgg3
  z3 := Tryd.sizeOf3
  v3 := Tryd.zeroValue3
  t4 := Tryd.underlying4
  a4 := Tryd.isAgg4
  z4 := Tryd.sizeOf4
  v4 := Tryd.zeroValue4
  t5 := Tryd.underlying5
  a5 := Tryd.isAgg5
  z5 := Tryd.sizeOf5
  v5 := Tryd.zeroValue5
  t9 := Tryd.underlying9
  a9 := Tryd.isAgg9
  z9 := Tryd.sizeOf9
  v9 := Tryd.zeroValue9
  t46 := Tryd.underlying156
  a46 := Tryd.isAgg156
  z46 := Tryd.sizeOf156
  v46 := Tryd.zeroValue156
  t51 := Tryd.underlying167
  a51 := Tryd.isAgg167
  z51 := Tryd.sizeOf167
  v51 := Tryd.zeroValue167
  t53 := Tryd.underlying186
  a53 := Tryd.isAgg186
  z53 := Tryd.sizeOf186
  v53 := Tryd.zeroValue186 }
/-- bits.Len: "Len returns the minimum number of bits required to represent x; the result is 0 for x == 0.": IT RETURNS 'Lib.bitLen x'; the world is as it was. (A uint has 64 bits in the model.) ITS CALLEE bits.Len64 IS MET BY ITS OWN CONTRACT OFF THE SHELF (lay that first). (LAID: no walk: one application.) -/
theorem Tryd.bits_Len (x : Int) (w : World) (h0 : 0 ≤ x) (h1 : x ≤ 18446744073709551615) :
    Calls Tryd.prog 118 #[.int .u64 x] w fun e w' => e = .returned (.int .i64 (Lib.bitLen x.toNat)) ∧ w' = w := Any.bits_Len Tryd.lays125 x w h0 h1
def Tryd.lays215_ren : Go.Shelf.Ren := ⟨fun | 215 => 121 | n => n, fun | 3 => 3 | 4 => 4 | n => n, fun | n => n⟩
theorem Tryd.lays215 : Go.Proofs.Lays.n215 Tryd.prog Tryd.lays215_ren := {
  mixed := by kernel_rfl
  f215 := Tryd.func121.trans (congrArg some (by kernel_rfl))
  t3 := Tryd.underlying3
  a3 := Tryd.isAgg3
  z3 := Tryd.sizeOf3
  v3 := Tryd.zeroValue3
  t4 := Tryd.underlying4
  a4 := Tryd.isAgg4
  z4 := Tryd.sizeOf4
  v4 := Tryd.zeroValue4 }
open Go.RowKit in
/-- cmp.isNaN at int: 'x != x': false. (LAID: no walk: one application.) -/
theorem Tryd.cmp_isNaN_int (x : Int) (w : World) :
    Calls Tryd.prog 121 #[.int .i64 x] w fun e w' => e = .returned (.bool false) ∧ w' = w := Any.cmp_isNaN_int Tryd.lays215 x w
def Tryd.lays122_ren : Go.Shelf.Ren := ⟨fun | 122 => 93 | 215 => 121 | n => n, fun | 3 => 3 | 4 => 4 | n => n, fun | n => n⟩
theorem Tryd.lays122 : Go.Proofs.Lays.n122 Tryd.prog Tryd.lays122_ren := {
  mixed := by kernel_rfl
  f122 := Tryd.func93.trans (congrArg some (by kernel_rfl))
  f215 := Tryd.func121.trans (congrArg some (by kernel_rfl))
  t3 := Tryd.underlying3
  a3 := Tryd.isAgg3
  z3 := Tryd.sizeOf3
  v3 := Tryd.zeroValue3
  t4 := Tryd.underlying4
  a4 := Tryd.isAgg4
  z4 := Tryd.sizeOf4
  v4 := Tryd.zeroValue4 }
open Go.RowKit in
/-- cmp.Compare at int: "Compare returns -1 if x is less than y, 0 if x equals y, +1 if x is greater than y.": IT RETURNS 'Lib.compareInt x y'; the world is as it was. (LAID: no walk: one application.) -/
theorem Tryd.cmp_Compare_int (x y : Int) (w : World) :
    Calls Tryd.prog 93 #[.int .i64 x, .int .i64 y] w fun e w' => e = .returned (.int .i64 (Lib.compareInt x y)) ∧ w' = w := Any.cmp_Compare_int Tryd.lays122 x y w
def Tryd.lays278_ren : Go.Shelf.Ren := ⟨fun | 278 => 128 | n => n, fun | 37 => 140 | 21 => 21 | 51 => 167 | 4 => 4 | 46 => 156 | 5 => 5 | n => n, fun | n => n⟩
theorem Tryd.lays278 : Go.Proofs.Lays.n278 Tryd.prog Tryd.lays278_ren := {
  mixed := by kernel_rfl
  f278 := Tryd.func128.trans (congrArg some (by kernel_rfl))
  t4 := Tryd.underlying4
  a4 := Tryd.isAgg4
  z4 := Tryd.sizeOf4
  v4 := Tryd.zeroValue4
  t5 := Tryd.underlying5
  a5 := Tryd.isAgg5
  z5 := Tryd.sizeOf5
  v5 := Tryd.zeroValue5
  t21 := Tryd.underlying21
  a21 := Tryd.isAgg21
  z21 := Tryd.sizeOf21
  v21 := Tryd.zeroValue21
  t37 := Tryd.underlying140
  a37 := Tryd.isAgg140
  z37 := Tryd.sizeOf140
  v37 := Tryd.zeroValue140
  t46 := Tryd.underlying156
  a46 := Tryd.isAgg156
  z46 := Tryd.sizeOf156
  v46 := Tryd.zeroValue156
  t51 := Tryd.underlying167
  a51 := Tryd.isAgg167
  z51 := Tryd.sizeOf167
  v51 := Tryd.zeroValue167 }
open Go.RowKit in
/-- unicode/utf8.appendRuneNonASCII (what AppendRune calls for all but ASCII), ONTO A ROW OF BYTES THAT THE CALL OWNS: every int32 that is no ASCII rune: 'Lib.runeCells r' goes in behind what the row holds. (LAID: no walk: one application.) -/
theorem Tryd.utf8_appendRuneNonASCII_row (B : Nat) (v : Value) (n : Nat) (xs : List Value) (r : Int) (hr0 : -2147483648 ≤ r) (hr1 : r ≤ 2147483647) (hna : r < 0 ∨ 128 ≤ r) (w : World) (hown : w.ownsRowF B 5 1 v n xs) (hlen : n + 4 ≤ 140737488355328) (hBw : B ≤ w.heap.size) :
    Calls Tryd.prog 128 #[v, .int .i32 r] w fun e w' => ∃ v', e = .returned v' ∧ w'.ownsRowF B 5 1 v' (n + (Lib.runeCells r).length) (xs ++ Lib.runeCells r) ∧ ∃ o, (w.alloc o).grownBy w' v.ownBlock := Any.utf8_appendRuneNonASCII_row Tryd.lays278 (by kernel_rfl) B v n xs r hr0 hr1 hna w hown hlen hBw
def Tryd.lays242_ren : Go.Shelf.Ren := ⟨fun | 242 => 101 | 278 => 128 | n => n, fun | 37 => 140 | 21 => 21 | 51 => 167 | 4 => 4 | 5 => 5 | 46 => 156 | n => n, fun | n => n⟩
theorem Tryd.lays242 : Go.Proofs.Lays.n242 Tryd.prog Tryd.lays242_ren := {
  mixed := by kernel_rfl
  f242 := Tryd.func101.trans (congrArg some (by kernel_rfl))
  f278 := Tryd.func128.trans (congrArg some (by kernel_rfl))
  t4 := Tryd.underlying4
  a4 := Tryd.isAgg4
  z4 := Tryd.sizeOf4
  v4 := Tryd.zeroValue4
  t5 := Tryd.underlying5
  a5 := Tryd.isAgg5
  z5 := Tryd.sizeOf5
  v5 := Tryd.zeroValue5
  t21 := Tryd.underlying21
  a21 := Tryd.isAgg21
  z21 := Tryd.sizeOf21
  v21 := Tryd.zeroValue21
  t37 := Tryd.underlying140
  a37 := Tryd.isAgg140
  z37 := Tryd.sizeOf140
  v37 := Tryd.zeroValue140
  t46 := Tryd.underlying156
  a46 := Tryd.isAgg156
  z46 := Tryd.sizeOf156
  v46 := Tryd.zeroValue156
  t51 := Tryd.underlying167
  a51 := Tryd.isAgg167
  z51 := Tryd.sizeOf167
  v51 := Tryd.zeroValue167 }
open Go.RowKit in
/-- unicode/utf8.AppendRune: "AppendRune appends the UTF-8 encoding of r to the end of p and returns the extended buffer. If the rune is out of range, it appends the encoding of RuneError.": ONTO A ROW OF BYTES THAT THE CALL OWNS (its head frozen or not): EVERY int32: 'Lib.runeCells r' goes in behind what the row holds; the world: one new block (the bytes as the call's variadic argument), then what 'append' does to the row. (LAID: no walk: one application.) -/
theorem Tryd.utf8_AppendRune_row (B : Nat) (v : Value) (n : Nat) (xs : List Value) (r : Int) (hr0 : -2147483648 ≤ r) (hr1 : r ≤ 2147483647) (w : World) (hown : w.ownsRowF B 5 1 v n xs) (hlen : n + 4 ≤ 140737488355328) (hBw : B ≤ w.heap.size) :
    Calls Tryd.prog 101 #[v, .int .i32 r] w fun e w' => ∃ v', e = .returned v' ∧ w'.ownsRowF B 5 1 v' (n + (Lib.runeCells r).length) (xs ++ Lib.runeCells r) ∧ ∃ o, (w.alloc o).grownBy w' v.ownBlock := Any.utf8_AppendRune_row Tryd.lays242 (by kernel_rfl) B v n xs r hr0 hr1 w hown hlen hBw
open Go.RowKit in
/-- unicode/utf8.appendRuneNonASCII (what AppendRune calls for all but ASCII), ONTO A ROW OF BYTES THAT THE CALL OWNS: every int32 that is no ASCII rune: 'Lib.runeCells r' goes in behind what the row holds. (LAID: no walk: one application.) -/
theorem Tryd.utf8_appendRuneNonASCII_plain (B : Nat) (v : Value) (n : Nat) (xs : List Value) (r : Int) (hr0 : -2147483648 ≤ r) (hr1 : r ≤ 2147483647) (hna : r < 0 ∨ 128 ≤ r) (w : World) (hown : w.ownsRow B 5 1 v n xs) (hlen : n + 4 ≤ 140737488355328) (hBw : B ≤ w.heap.size) :
    Calls Tryd.prog 128 #[v, .int .i32 r] w fun e w' => ∃ v', e = .returned v' ∧ w'.ownsRow B 5 1 v' (n + (Lib.runeCells r).length) (xs ++ Lib.runeCells r) ∧ ∃ o, (w.alloc o).grownBy w' v.ownBlock := Any.utf8_appendRuneNonASCII_plain Tryd.lays278 (by kernel_rfl) B v n xs r hr0 hr1 hna w hown hlen hBw
open Go.RowKit in
/-- unicode/utf8.AppendRune: "AppendRune appends the UTF-8 encoding of r to the end of p and returns the extended buffer. If the rune is out of range, it appends the encoding of RuneError.": ONTO A ROW OF BYTES THAT THE CALL OWNS (its head frozen or not): EVERY int32: 'Lib.runeCells r' goes in behind what the row holds; the world: one new block (the bytes as the call's variadic argument), then what 'append' does to the row. (LAID: no walk: one application.) -/
theorem Tryd.utf8_AppendRune_plain (B : Nat) (v : Value) (n : Nat) (xs : List Value) (r : Int) (hr0 : -2147483648 ≤ r) (hr1 : r ≤ 2147483647) (w : World) (hown : w.ownsRow B 5 1 v n xs) (hlen : n + 4 ≤ 140737488355328) (hBw : B ≤ w.heap.size) :
    Calls Tryd.prog 101 #[v, .int .i32 r] w fun e w' => ∃ v', e = .returned v' ∧ w'.ownsRow B 5 1 v' (n + (Lib.runeCells r).length) (xs ++ Lib.runeCells r) ∧ ∃ o, (w.alloc o).grownBy w' v.ownBlock := Any.utf8_AppendRune_plain Tryd.lays242 (by kernel_rfl) B v n xs r hr0 hr1 w hown hlen hBw
def Tryd.lays195_ren : Go.Shelf.Ren := ⟨fun | 195 => 115 | n => n, fun | 9 => 9 | 3 => 3 | 0 => 0 | 4 => 4 | n => n, fun | n => n⟩
theorem Tryd.lays195 : Go.Proofs.Lays.n195 Tryd.prog Tryd.lays195_ren := {
  mixed := by kernel_rfl
  f195 := Tryd.func115.trans (congrArg some (by kernel_rfl))
  t0 := Tryd.underlying0
  a0 := Tryd.isAgg0
  z0 := Tryd.sizeOf0
  v0 := Tryd.zeroValue0
  t3 := Tryd.underlying3
  a3 := Tryd.isAgg3
  z3 := Tryd.sizeOf3
  v3 := Tryd.zeroValue3
  t4 := Tryd.underlying4
  a4 := Tryd.isAgg4
  z4 := Tryd.sizeOf4
  v4 := Tryd.zeroValue4
  t9 := Tryd.underlying9
  a9 := Tryd.isAgg9
  z9 := Tryd.sizeOf9
  v9 := Tryd.zeroValue9 }
open Go.RowKit in
/-- unicode/utf8.RuneCountInString: "RuneCountInString is like RuneCount but its input is a string." ("RuneCount returns the number of runes in p. Erroneous and short encodings are treated as single runes of width 1 byte."): EVERY STRING, valid UTF-8 or not: 'Lib.runeCount s' (plain Lean over the model's own 'Utf8.decode'; 'Lib.runeCount_le': at most len(s); 'Lib.runeCount_ascii': on ASCII: len(s)). THE ONE CONDITION: len(s) below 2^63 - 1 (the counter does not wrap): the form's reach pays it. THE WORLD BEHIND THE CALL: ONE BLOCK MORE: the model's iterator over s, at its end: all else as it was. (LAID: no walk: one application.) -/
theorem Tryd.utf8_RuneCountInString (s : ByteArray) (w : World) (hs : s.size < 9223372036854775807) :
    Calls Tryd.prog 115 #[.string s] w fun e w' => e = .returned (.int .i64 (Lib.runeCount s)) ∧ ∃ pos, w' = w.iter s pos := Any.utf8_RuneCountInString Tryd.lays195 s w hs
def Tryd.lays129_ren : Go.Shelf.Ren := ⟨fun | 129 => 158 | n => n, fun | 53 => 186 | 3 => 3 | 4 => 4 | 46 => 156 | 5 => 5 | 9 => 9 | n => n, fun | n => n⟩
theorem Tryd.lays129 : Go.Proofs.Lays.n129 Tryd.prog Tryd.lays129_ren := {
  mixed := by kernel_rfl
  f129 := Tryd.func158.trans (congrArg some (by kernel_rfl))
  t3 := Tryd.underlying3
  a3 := Tryd.isAgg3
  z3 := Tryd.sizeOf3
  v3 := Tryd.zeroValue3
  t4 := Tryd.underlying4
  a4 := Tryd.isAgg4
  z4 := Tryd.sizeOf4
  v4 := Tryd.zeroValue4
  t5 := Tryd.underlying5
  a5 := Tryd.isAgg5
  z5 := Tryd.sizeOf5
  v5 := Tryd.zeroValue5
  t9 := Tryd.underlying9
  a9 := Tryd.isAgg9
  z9 := Tryd.sizeOf9
  v9 := Tryd.zeroValue9
  t46 := Tryd.underlying156
  a46 := Tryd.isAgg156
  z46 := Tryd.sizeOf156
  v46 := Tryd.zeroValue156
  t53 := Tryd.underlying186
  a53 := Tryd.isAgg186
  z53 := Tryd.sizeOf186
  v53 := Tryd.zeroValue186 }
/-- bits.Len64: "Len64 returns the minimum number of bits required to represent x; the result is 0 for x == 0.": IT RETURNS 'Lib.bitLen x'; the world is as it was. ('h0', 'h1': x is a uint64.) (LAID: no walk: one application.) -/
theorem Tryd.bits_Len64 (x : Int) (w : World) (h0 : 0 ≤ x) (h1 : x ≤ 18446744073709551615) :
    Calls Tryd.prog 158 #[.int .u64 x] w fun e w' => e = .returned (.int .i64 (Lib.bitLen x.toNat)) ∧ w' = w := Any.bits_Len64 Tryd.lays129 x w h0 h1
def Tryd.lays206_ren : Go.Shelf.Ren := ⟨fun | 206 => 102 | n => n, fun | 9 => 9 | 4 => 4 | 3 => 3 | n => n, fun | n => n⟩
theorem Tryd.lays206 : Go.Proofs.Lays.n206 Tryd.prog Tryd.lays206_ren := {
  mixed := by kernel_rfl
  f206 := Tryd.func102.trans (congrArg some (by kernel_rfl))
  t3 := Tryd.underlying3
  a3 := Tryd.isAgg3
  z3 := Tryd.sizeOf3
  v3 := Tryd.zeroValue3
  t4 := Tryd.underlying4
  a4 := Tryd.isAgg4
  z4 := Tryd.sizeOf4
  v4 := Tryd.zeroValue4
  t9 := Tryd.underlying9
  a9 := Tryd.isAgg9
  z9 := Tryd.sizeOf9
  v9 := Tryd.zeroValue9 }
open Go.RowKit Go.Lib in
/-- internal/stringslite.HasPrefix (what strings.HasPrefix calls). (LAID: no walk: one application.) -/
theorem Tryd.stringslite_HasPrefix (s p : ByteArray) (w : World) :
    Calls Tryd.prog 102 #[.string s, .string p] w fun e w' => e = .returned (.bool (Lib.hasPrefix s.data.toList p.data.toList)) ∧ w' = w := Any.stringslite_HasPrefix Tryd.lays206 s p w
def Tryd.lays99_ren : Go.Shelf.Ren := ⟨fun | 99 => 61 | 206 => 102 | n => n, fun | 9 => 9 | 4 => 4 | 3 => 3 | n => n, fun | n => n⟩
theorem Tryd.lays99 : Go.Proofs.Lays.n99 Tryd.prog Tryd.lays99_ren := {
  mixed := by kernel_rfl
  f99 := Tryd.func61.trans (congrArg some (by kernel_rfl))
  f206 := Tryd.func102.trans (congrArg some (by kernel_rfl))
  t3 := Tryd.underlying3
  a3 := Tryd.isAgg3
  z3 := Tryd.sizeOf3
  v3 := Tryd.zeroValue3
  t4 := Tryd.underlying4
  a4 := Tryd.isAgg4
  z4 := Tryd.sizeOf4
  v4 := Tryd.zeroValue4
  t9 := Tryd.underlying9
  a9 := Tryd.isAgg9
  z9 := Tryd.sizeOf9
  v9 := Tryd.zeroValue9 }
open Go.RowKit Go.Lib in
/-- strings.HasPrefix: "HasPrefix reports whether the string s begins with prefix.": IT RETURNS 'Lib.hasPrefix s prefix'; the world is as it was. (LAID: no walk: one application.) -/
theorem Tryd.strings_HasPrefix (s p : ByteArray) (w : World) :
    Calls Tryd.prog 61 #[.string s, .string p] w fun e w' => e = .returned (.bool (Lib.hasPrefix s.data.toList p.data.toList)) ∧ w' = w := Any.strings_HasPrefix Tryd.lays99 s p w
def Tryd.lays197_ren : Go.Shelf.Ren := ⟨fun | 197 => 123 | 260 => 167 | n => n, fun | 9 => 9 | 21 => 21 | 3 => 3 | 4 => 4 | 5 => 5 | 105 => 163 | 119 => 196 | 0 => 0 | 46 => 156 | 139 => 199 | 138 => 198 | n => n, fun | 3 => 0 | 4 => 1 | n => n⟩
theorem Tryd.lays197 : Go.Proofs.Lays.n197 Tryd.prog Tryd.lays197_ren := {
  mixed := by kernel_rfl
  f197 := Tryd.func123.trans (congrArg some (by kernel_rfl))
  f260 := Tryd.func167.trans (congrArg some (by kernel_rfl))
  t0 := Tryd.underlying0
  a0 := Tryd.isAgg0
  z0 := Tryd.sizeOf0
  v0 := Tryd.zeroValue0
  t3 := Tryd.underlying3
  a3 := Tryd.isAgg3
  z3 := Tryd.sizeOf3
  v3 := Tryd.zeroValue3
  t4 := Tryd.underlying4
  a4 := Tryd.isAgg4
  z4 := Tryd.sizeOf4
  v4 := Tryd.zeroValue4
  t5 := Tryd.underlying5
  a5 := Tryd.isAgg5
  z5 := Tryd.sizeOf5
  v5 := Tryd.zeroValue5
  t9 := Tryd.underlying9
  a9 := Tryd.isAgg9
  z9 := Tryd.sizeOf9
  v9 := Tryd.zeroValue9
  t21 := Tryd.underlying21
  a21 := Tryd.isAgg21
  z21 := Tryd.sizeOf21
  v21 := Tryd.zeroValue21
  t46 := Tryd.underlying156
  a46 := Tryd.isAgg156
  z46 := Tryd.sizeOf156
  v46 := Tryd.zeroValue156
  t105 := Tryd.underlying163
  a105 := Tryd.isAgg163
  z105 := Tryd.sizeOf163
  v105 := Tryd.zeroValue163
  t119 := Tryd.underlying196
  a119 := Tryd.isAgg196
  z119 := Tryd.sizeOf196
  t138 := Tryd.underlying198
  a138 := Tryd.isAgg198
  z138 := Tryd.sizeOf198
  v138 := Tryd.zeroValue198
  t139 := Tryd.underlying199
  a139 := Tryd.isAgg199
  z139 := Tryd.sizeOf199
  v139 := Tryd.zeroValue199
  g3 := by kernel_rfl
  g4 := by kernel_rfl }
open Go.RowKit Go.Lib in
/-- unicode/utf8.DecodeRuneInString: "DecodeRuneInString is like DecodeRune but its input is a string.": ("DecodeRune unpacks the first UTF-8 encoding in p and returns the rune and its width in bytes."): WHERE s BEGINS WITH AN ASCII BYTE x: (x, 1). (LAID: no walk: one application.) -/
theorem Tryd.utf8_DecodeRuneInString_ascii (s : ByteArray) (x : UInt8) (w : World) (h0 : s.data.toList[0]? = some x) (hx : x.toNat < 128) :
    Calls Tryd.prog 123 #[.string s] w fun e w' => e = .returned (.tuple #[.int .i32 x.toNat, .int .i64 1]) ∧ w' = w := Any.utf8_DecodeRuneInString_ascii Tryd.lays197 s x w h0 hx
open Go.RowKit Go.Lib in
theorem Tryd.utf8_RuneCountInString_ascii (s : ByteArray) (w : World) (hs : s.size < 4294967281) (hascii : ∀ (j : Nat) b, s.data.toList[j]? = some b → b.toNat < 128) :
    Calls Tryd.prog 115 #[.string s] w fun e w' => e = .returned (.int .i64 s.size) ∧ w' = w.iter s s.size := Any.utf8_RuneCountInString_ascii Tryd.lays195 s w hs hascii
def Tryd.lays264_ren : Go.Shelf.Ren := ⟨fun | 264 => 189 | n => n, fun | 53 => 186 | 46 => 156 | n => n, fun | n => n⟩
theorem Tryd.lays264 : Go.Proofs.Lays.n264 Tryd.prog Tryd.lays264_ren := {
  mixed := by kernel_rfl
  f264 := Tryd.func189.trans (congrArg some (by kernel_rfl))
  t46 := Tryd.underlying156
  a46 := Tryd.isAgg156
  z46 := Tryd.sizeOf156
  v46 := Tryd.zeroValue156
  t53 := Tryd.underlying186
  a53 := Tryd.isAgg186
  z53 := Tryd.sizeOf186
  v53 := Tryd.zeroValue186 }
open Go.RowKit Go.Lib in
theorem Tryd.bits_Mul64 (x y : Nat) (hx : x < 18446744073709551616) (hy : y < 18446744073709551616) (w : World) :
    Calls Tryd.prog 189 #[.int .u64 x, .int .u64 y] w fun e w' => e = .returned (.tuple #[.int .u64 ((x * y / 18446744073709551616 : Nat) : Int), .int .u64 ((x * y % 18446744073709551616 : Nat) : Int)]) ∧ w' = w := Any.bits_Mul64 Tryd.lays264 x y hx hy w
def Tryd.lays260_ren : Go.Shelf.Ren := ⟨fun | 260 => 167 | n => n, fun | 9 => 9 | 21 => 21 | 3 => 3 | 4 => 4 | 5 => 5 | 119 => 196 | 0 => 0 | 46 => 156 | 139 => 199 | 138 => 198 | n => n, fun | 3 => 0 | 4 => 1 | n => n⟩
theorem Tryd.lays260 : Go.Proofs.Lays.n260 Tryd.prog Tryd.lays260_ren := {
  mixed := by kernel_rfl
  f260 := Tryd.func167.trans (congrArg some (by kernel_rfl))
  t0 := Tryd.underlying0
  a0 := Tryd.isAgg0
  z0 := Tryd.sizeOf0
  v0 := Tryd.zeroValue0
  t3 := Tryd.underlying3
  a3 := Tryd.isAgg3
  z3 := Tryd.sizeOf3
  v3 := Tryd.zeroValue3
  t4 := Tryd.underlying4
  a4 := Tryd.isAgg4
  z4 := Tryd.sizeOf4
  v4 := Tryd.zeroValue4
  t5 := Tryd.underlying5
  a5 := Tryd.isAgg5
  z5 := Tryd.sizeOf5
  v5 := Tryd.zeroValue5
  t9 := Tryd.underlying9
  a9 := Tryd.isAgg9
  z9 := Tryd.sizeOf9
  v9 := Tryd.zeroValue9
  t21 := Tryd.underlying21
  a21 := Tryd.isAgg21
  z21 := Tryd.sizeOf21
  v21 := Tryd.zeroValue21
  t46 := Tryd.underlying156
  a46 := Tryd.isAgg156
  z46 := Tryd.sizeOf156
  v46 := Tryd.zeroValue156
  t119 := Tryd.underlying196
  a119 := Tryd.isAgg196
  z119 := Tryd.sizeOf196
  t138 := Tryd.underlying198
  a138 := Tryd.isAgg198
  z138 := Tryd.sizeOf198
  v138 := Tryd.zeroValue198
  t139 := Tryd.underlying199
  a139 := Tryd.isAgg199
  z139 := Tryd.sizeOf199
  v139 := Tryd.zeroValue199
  g3 := by kernel_rfl
  g4 := by kernel_rfl }
open Go.RowKit Go.Lib in
theorem Tryd.utf8_decodeRuneInStringSlow (s : ByteArray) (w : World) (hT : Lib.Utf8Tabs 0 1 w) :
    Calls Tryd.prog 167 #[.string s] w fun e w' => e = .returned (.tuple #[.int .i32 (Lib.decodeGo s).1, .int .i64 (Lib.decodeGo s).2]) ∧ Below w.heap.size w w' := Any.utf8_decodeRuneInStringSlow Tryd.lays260 s w hT
open Go.RowKit Go.Lib in
/-- **unicode/utf8.DecodeRuneInString AT EVERY STRING.** (LAID: no walk: one application.) -/
theorem Tryd.utf8_DecodeRuneInString (s : ByteArray) (w : World) (hT : Lib.Utf8Tabs 0 1 w) :
    Calls Tryd.prog 123 #[.string s] w fun e w' => e = .returned (.tuple #[.int .i32 (Lib.decodeGo s).1, .int .i64 (Lib.decodeGo s).2]) ∧ Below w.heap.size w w' := Any.utf8_DecodeRuneInString Tryd.lays197 s w hT
def Tryd.laysNm237_ren : Go.Shelf.Ren := ⟨fun | 37 => 121 | n => n, fun | 3 => 3 | 4 => 4 | n => n, fun | n => n⟩
theorem Tryd.laysNm237 : Go.Proofs.Lays2.n37 Tryd.prog Tryd.laysNm237_ren := {
  mixed := by kernel_rfl
  f37 := Tryd.func121.trans (congrArg some (by kernel_rfl))
  t3 := Tryd.underlying3
  a3 := Tryd.isAgg3
  z3 := Tryd.sizeOf3
  v3 := Tryd.zeroValue3
  t4 := Tryd.underlying4
  a4 := Tryd.isAgg4
  z4 := Tryd.sizeOf4
  v4 := Tryd.zeroValue4 }
open Go.RowKit Go.Lib in
/-- cmp.isNaN[int]: 'x != x': false. (LAID: no walk: one application.) -/
theorem Tryd.cmp_isNaN_int2 (x : Int) (w : World) :
    Calls Tryd.prog 121 #[.int .i64 x] w fun e w' => e = .returned (.bool false) ∧ w' = w := Any.cmp_isNaN_int2 Tryd.laysNm237 x w
def Tryd.laysValid_ren : Go.Shelf.Ren := ⟨fun | 196 => 114 | 259 => 147 | n => n, fun | 9 => 9 | 4 => 4 | 3 => 3 | 5 => 5 | 12 => 12 | 119 => 196 | 0 => 0 | 46 => 156 | 139 => 199 | 138 => 198 | 53 => 186 | n => n, fun | 3 => 0 | 4 => 1 | n => n⟩
theorem Tryd.laysValid : Go.Proofs.Lays.n196 Tryd.prog Tryd.laysValid_ren := {
  mixed := by kernel_rfl
  f196 := Tryd.func114.trans (congrArg some (by kernel_rfl))
  f259 := Tryd.func147.trans (congrArg some (by kernel_rfl))
  t0 := Tryd.underlying0
  a0 := Tryd.isAgg0
  z0 := Tryd.sizeOf0
  v0 := Tryd.zeroValue0
  t3 := Tryd.underlying3
  a3 := Tryd.isAgg3
  z3 := Tryd.sizeOf3
  v3 := Tryd.zeroValue3
  t4 := Tryd.underlying4
  a4 := Tryd.isAgg4
  z4 := Tryd.sizeOf4
  v4 := Tryd.zeroValue4
  t5 := Tryd.underlying5
  a5 := Tryd.isAgg5
  z5 := Tryd.sizeOf5
  v5 := Tryd.zeroValue5
  t9 := Tryd.underlying9
  a9 := Tryd.isAgg9
  z9 := Tryd.sizeOf9
  v9 := Tryd.zeroValue9
  t12 := Tryd.underlying12
  a12 := Tryd.isAgg12
  z12 := Tryd.sizeOf12
  v12 := Tryd.zeroValue12
  t46 := Tryd.underlying156
  a46 := Tryd.isAgg156
  z46 := Tryd.sizeOf156
  v46 := Tryd.zeroValue156
  t53 := Tryd.underlying186
  a53 := Tryd.isAgg186
  z53 := Tryd.sizeOf186
  v53 := Tryd.zeroValue186
  t119 := Tryd.underlying196
  a119 := Tryd.isAgg196
  z119 := Tryd.sizeOf196
  t138 := Tryd.underlying198
  a138 := Tryd.isAgg198
  z138 := Tryd.sizeOf198
  v138 := Tryd.zeroValue198
  t139 := Tryd.underlying199
  a139 := Tryd.isAgg199
  z139 := Tryd.sizeOf199
  v139 := Tryd.zeroValue199
  g3 := by kernel_rfl
  g4 := by kernel_rfl }
open Go.RowKit Go.Lib in
theorem Tryd.utf8_ValidString (s : ByteArray) (w : World) (hs : s.size ≤ 9223372036854775807) (hT : Lib.Utf8Tabs 0 1 w) :
    Calls Tryd.prog 114 #[.string s] w fun e w' => e = .returned (.bool (Lib.validD s.data.toList)) ∧ Below w.heap.size w w' := Any.utf8_ValidString Tryd.laysValid s w hs hT
def Tryd.sortBlocks_ren : Go.Shelf.Ren := ⟨fun | 6 => 82 | 15 => 118 | 14 => 117 | 28 => 157 | 29 => 158 | 20 => 149 | 21 => 150 | 22 => 151 | 23 => 152 | 24 => 153 | 25 => 154 | 26 => 155 | 27 => 156 | 46 => 192 | 47 => 193 | 48 => 194 | 49 => 195 | 50 => 196 | 57 => 211 | n => n, fun | 22 => 22 | 24 => 25 | 25 => 107 | 3 => 3 | 39 => 156 | 0 => 0 | 53 => 167 | 55 => 186 | 4 => 4 | 46 => 202 | 45 => 201 | 50 => 104 | 5 => 5 | 9 => 9 | 66 => 238 | 70 => 242 | 76 => 253 | 77 => 254 | n => n, fun | n => n⟩
theorem Tryd.sortBlocks : Go.Proofs.SlLaysF0.n6 Tryd.prog Tryd.sortBlocks_ren := {
  mixed := by kernel_rfl
  f6 := ⟨Tryd.f82.name, by decide, Tryd.func82.trans (congrArg some (by kernel_rfl))⟩
  f14 := ⟨Tryd.f117.name, by decide, Tryd.func117.trans (congrArg some (by kernel_rfl))⟩
  f15 := Tryd.func118.trans (congrArg some (by kernel_rfl))
  f20 := ⟨Tryd.f149.name, by decide, Tryd.func149.trans (congrArg some (by kernel_rfl))⟩
  f21 := ⟨Tryd.f150.name, by decide, Tryd.func150.trans (congrArg some (by kernel_rfl))⟩
  f22 := ⟨Tryd.f151.name, by decide, Tryd.func151.trans (congrArg some (by kernel_rfl))⟩
  f23 := ⟨Tryd.f152.name, by decide, Tryd.func152.trans (congrArg some (by kernel_rfl))⟩
  f24 := ⟨Tryd.f153.name, by decide, Tryd.func153.trans (congrArg some (by kernel_rfl))⟩
  f25 := ⟨Tryd.f154.name, by decide, Tryd.func154.trans (congrArg some (by kernel_rfl))⟩
  f26 := ⟨Tryd.f155.name, by decide, Tryd.func155.trans (congrArg some (by kernel_rfl))⟩
  f27 := ⟨Tryd.f156.name, by decide, Tryd.func156.trans (congrArg some (by kernel_rfl))⟩
  f28 := Tryd.func157.trans (congrArg some (by kernel_rfl))
  f29 := Tryd.func158.trans (congrArg some (by kernel_rfl))
  f46 := ⟨Tryd.f192.name, by decide, Tryd.func192.trans (congrArg some (by kernel_rfl))⟩
  f47 := Tryd.func193.trans (congrArg some (by kernel_rfl))
  f48 := Tryd.func194.trans (congrArg some (by kernel_rfl))
  f49 := ⟨Tryd.f195.name, by decide, Tryd.func195.trans (congrArg some (by kernel_rfl))⟩
  f50 := ⟨Tryd.f196.name, by decide, Tryd.func196.trans (congrArg some (by kernel_rfl))⟩
  f57 := ⟨Tryd.f211.name, by decide, Tryd.func211.trans (congrArg some (by kernel_rfl))⟩
  t0 := Tryd.underlying0
  a0 := Tryd.isAgg0
  z0 := Tryd.sizeOf0
  v0 := Tryd.zeroValue0
  t3 := Tryd.underlying3
  a3 := Tryd.isAgg3
  z3 := Tryd.sizeOf3
  v3 := Tryd.zeroValue3
  t4 := Tryd.underlying4
  a4 := Tryd.isAgg4
  z4 := Tryd.sizeOf4
  v4 := Tryd.zeroValue4
  t5 := Tryd.underlying5
  a5 := Tryd.isAgg5
  z5 := Tryd.sizeOf5
  v5 := Tryd.zeroValue5
  t9 := Tryd.underlying9
  a9 := Tryd.isAgg9
  z9 := Tryd.sizeOf9
  v9 := Tryd.zeroValue9
  t22 := Tryd.underlying22
  a22 := Tryd.isAgg22
  z22 := Tryd.sizeOf22
  v22 := Tryd.zeroValue22
  t25 := Tryd.underlying107
  a25 := Tryd.isAgg107
  z25 := Tryd.sizeOf107
  v25 := Tryd.zeroValue107
  t39 := Tryd.underlying156
  a39 := Tryd.isAgg156
  z39 := Tryd.sizeOf156
  v39 := Tryd.zeroValue156
  t45 := Tryd.underlying201
  a45 := Tryd.isAgg201
  z45 := Tryd.sizeOf201
  v45 := Tryd.zeroValue201
  t46 := Tryd.underlying202
  a46 := Tryd.isAgg202
  z46 := Tryd.sizeOf202
  v46 := Tryd.zeroValue202
  t50 := Tryd.underlying104
  a50 := Tryd.isAgg104
  z50 := Tryd.sizeOf104
  v50 := Tryd.zeroValue104
  t53 := Tryd.underlying167
  a53 := Tryd.isAgg167
  z53 := Tryd.sizeOf167
  v53 := Tryd.zeroValue167
  t55 := Tryd.underlying186
  a55 := Tryd.isAgg186
  z55 := Tryd.sizeOf186
  v55 := Tryd.zeroValue186
  t66 := Tryd.underlying238
  a66 := Tryd.isAgg238
  z66 := Tryd.sizeOf238
  v66 := Tryd.zeroValue238
  t70 := Tryd.underlying242
  a70 := Tryd.isAgg242
  z70 := Tryd.sizeOf242
  v70 := Tryd.zeroValue242
  t76 := Tryd.underlying253
  a76 := Tryd.isAgg253
  z76 := Tryd.sizeOf253
  v76 := Tryd.zeroValue253
  t77 := Tryd.underlying254
  a77 := Tryd.isAgg254
  z77 := Tryd.sizeOf254
  v77 := Tryd.zeroValue254 }
def Tryd.sortRules_ren : Go.Shelf.Ren := ⟨fun | 6 => 130 | 15 => 118 | 14 => 172 | 28 => 157 | 29 => 158 | 20 => 200 | 21 => 201 | 22 => 202 | 23 => 203 | 24 => 204 | 25 => 205 | 26 => 206 | 27 => 207 | 46 => 213 | 47 => 193 | 48 => 194 | 49 => 214 | 50 => 215 | 57 => 216 | n => n, fun | 22 => 26 | 24 => 33 | 25 => 102 | 3 => 3 | 39 => 156 | 0 => 0 | 53 => 167 | 55 => 186 | 4 => 4 | 46 => 202 | 45 => 201 | 50 => 104 | 5 => 5 | 9 => 9 | 66 => 238 | 70 => 242 | 76 => 253 | 77 => 254 | n => n, fun | n => n⟩
theorem Tryd.sortRules : Go.Proofs.SlLaysF0.n6 Tryd.prog Tryd.sortRules_ren := {
  mixed := by kernel_rfl
  f6 := ⟨Tryd.f130.name, by decide, Tryd.func130.trans (congrArg some (by kernel_rfl))⟩
  f14 := ⟨Tryd.f172.name, by decide, Tryd.func172.trans (congrArg some (by kernel_rfl))⟩
  f15 := Tryd.func118.trans (congrArg some (by kernel_rfl))
  f20 := ⟨Tryd.f200.name, by decide, Tryd.func200.trans (congrArg some (by kernel_rfl))⟩
  f21 := ⟨Tryd.f201.name, by decide, Tryd.func201.trans (congrArg some (by kernel_rfl))⟩
  f22 := ⟨Tryd.f202.name, by decide, Tryd.func202.trans (congrArg some (by kernel_rfl))⟩
  f23 := ⟨Tryd.f203.name, by decide, Tryd.func203.trans (congrArg some (by kernel_rfl))⟩
  f24 := ⟨Tryd.f204.name, by decide, Tryd.func204.trans (congrArg some (by kernel_rfl))⟩
  f25 := ⟨Tryd.f205.name, by decide, Tryd.func205.trans (congrArg some (by kernel_rfl))⟩
  f26 := ⟨Tryd.f206.name, by decide, Tryd.func206.trans (congrArg some (by kernel_rfl))⟩
  f27 := ⟨Tryd.f207.name, by decide, Tryd.func207.trans (congrArg some (by kernel_rfl))⟩
  f28 := Tryd.func157.trans (congrArg some (by kernel_rfl))
  f29 := Tryd.func158.trans (congrArg some (by kernel_rfl))
  f46 := ⟨Tryd.f213.name, by decide, Tryd.func213.trans (congrArg some (by kernel_rfl))⟩
  f47 := Tryd.func193.trans (congrArg some (by kernel_rfl))
  f48 := Tryd.func194.trans (congrArg some (by kernel_rfl))
  f49 := ⟨Tryd.f214.name, by decide, Tryd.func214.trans (congrArg some (by kernel_rfl))⟩
  f50 := ⟨Tryd.f215.name, by decide, Tryd.func215.trans (congrArg some (by kernel_rfl))⟩
  f57 := ⟨Tryd.f216.name, by decide, Tryd.func216.trans (congrArg some (by kernel_rfl))⟩
  t0 := Tryd.underlying0
  a0 := Tryd.isAgg0
  z0 := Tryd.sizeOf0
  v0 := Tryd.zeroValue0
  t3 := Tryd.underlying3
  a3 := Tryd.isAgg3
  z3 := Tryd.sizeOf3
  v3 := Tryd.zeroValue3
  t4 := Tryd.underlying4
  a4 := Tryd.isAgg4
  z4 := Tryd.sizeOf4
  v4 := Tryd.zeroValue4
  t5 := Tryd.underlying5
  a5 := Tryd.isAgg5
  z5 := Tryd.sizeOf5
  v5 := Tryd.zeroValue5
  t9 := Tryd.underlying9
  a9 := Tryd.isAgg9
  z9 := Tryd.sizeOf9
  v9 := Tryd.zeroValue9
  t22 := Tryd.underlying26
  a22 := Tryd.isAgg26
  z22 := Tryd.sizeOf26
  v22 := Tryd.zeroValue26
  t25 := Tryd.underlying102
  a25 := Tryd.isAgg102
  z25 := Tryd.sizeOf102
  v25 := Tryd.zeroValue102
  t39 := Tryd.underlying156
  a39 := Tryd.isAgg156
  z39 := Tryd.sizeOf156
  v39 := Tryd.zeroValue156
  t45 := Tryd.underlying201
  a45 := Tryd.isAgg201
  z45 := Tryd.sizeOf201
  v45 := Tryd.zeroValue201
  t46 := Tryd.underlying202
  a46 := Tryd.isAgg202
  z46 := Tryd.sizeOf202
  v46 := Tryd.zeroValue202
  t50 := Tryd.underlying104
  a50 := Tryd.isAgg104
  z50 := Tryd.sizeOf104
  v50 := Tryd.zeroValue104
  t53 := Tryd.underlying167
  a53 := Tryd.isAgg167
  z53 := Tryd.sizeOf167
  v53 := Tryd.zeroValue167
  t55 := Tryd.underlying186
  a55 := Tryd.isAgg186
  z55 := Tryd.sizeOf186
  v55 := Tryd.zeroValue186
  t66 := Tryd.underlying238
  a66 := Tryd.isAgg238
  z66 := Tryd.sizeOf238
  v66 := Tryd.zeroValue238
  t70 := Tryd.underlying242
  a70 := Tryd.isAgg242
  z70 := Tryd.sizeOf242
  v70 := Tryd.zeroValue242
  t76 := Tryd.underlying253
  a76 := Tryd.isAgg253
  z76 := Tryd.sizeOf253
  v76 := Tryd.zeroValue253
  t77 := Tryd.underlying254
  a77 := Tryd.isAgg254
  z77 := Tryd.sizeOf254
  v77 := Tryd.zeroValue254 }
def Tryd.sortHits_ren : Go.Shelf.Ren := ⟨fun | 6 => 90 | 15 => 118 | 14 => 120 | 28 => 157 | 29 => 158 | 20 => 159 | 21 => 160 | 22 => 161 | 23 => 162 | 24 => 163 | 25 => 164 | 26 => 165 | 27 => 166 | 46 => 197 | 47 => 193 | 48 => 194 | 49 => 198 | 50 => 199 | 57 => 212 | n => n, fun | 22 => 60 | 24 => 68 | 25 => 130 | 3 => 3 | 39 => 156 | 0 => 0 | 53 => 167 | 55 => 186 | 4 => 4 | 46 => 202 | 45 => 201 | 50 => 104 | 5 => 5 | 9 => 9 | 66 => 238 | 70 => 242 | 76 => 253 | 77 => 254 | n => n, fun | n => n⟩
theorem Tryd.sortHits : Go.Proofs.SlLaysF0.n6 Tryd.prog Tryd.sortHits_ren := {
  mixed := by kernel_rfl
  f6 := ⟨Tryd.f90.name, by decide, Tryd.func90.trans (congrArg some (by kernel_rfl))⟩
  f14 := ⟨Tryd.f120.name, by decide, Tryd.func120.trans (congrArg some (by kernel_rfl))⟩
  f15 := Tryd.func118.trans (congrArg some (by kernel_rfl))
  f20 := ⟨Tryd.f159.name, by decide, Tryd.func159.trans (congrArg some (by kernel_rfl))⟩
  f21 := ⟨Tryd.f160.name, by decide, Tryd.func160.trans (congrArg some (by kernel_rfl))⟩
  f22 := ⟨Tryd.f161.name, by decide, Tryd.func161.trans (congrArg some (by kernel_rfl))⟩
  f23 := ⟨Tryd.f162.name, by decide, Tryd.func162.trans (congrArg some (by kernel_rfl))⟩
  f24 := ⟨Tryd.f163.name, by decide, Tryd.func163.trans (congrArg some (by kernel_rfl))⟩
  f25 := ⟨Tryd.f164.name, by decide, Tryd.func164.trans (congrArg some (by kernel_rfl))⟩
  f26 := ⟨Tryd.f165.name, by decide, Tryd.func165.trans (congrArg some (by kernel_rfl))⟩
  f27 := ⟨Tryd.f166.name, by decide, Tryd.func166.trans (congrArg some (by kernel_rfl))⟩
  f28 := Tryd.func157.trans (congrArg some (by kernel_rfl))
  f29 := Tryd.func158.trans (congrArg some (by kernel_rfl))
  f46 := ⟨Tryd.f197.name, by decide, Tryd.func197.trans (congrArg some (by kernel_rfl))⟩
  f47 := Tryd.func193.trans (congrArg some (by kernel_rfl))
  f48 := Tryd.func194.trans (congrArg some (by kernel_rfl))
  f49 := ⟨Tryd.f198.name, by decide, Tryd.func198.trans (congrArg some (by kernel_rfl))⟩
  f50 := ⟨Tryd.f199.name, by decide, Tryd.func199.trans (congrArg some (by kernel_rfl))⟩
  f57 := ⟨Tryd.f212.name, by decide, Tryd.func212.trans (congrArg some (by kernel_rfl))⟩
  t0 := Tryd.underlying0
  a0 := Tryd.isAgg0
  z0 := Tryd.sizeOf0
  v0 := Tryd.zeroValue0
  t3 := Tryd.underlying3
  a3 := Tryd.isAgg3
  z3 := Tryd.sizeOf3
  v3 := Tryd.zeroValue3
  t4 := Tryd.underlying4
  a4 := Tryd.isAgg4
  z4 := Tryd.sizeOf4
  v4 := Tryd.zeroValue4
  t5 := Tryd.underlying5
  a5 := Tryd.isAgg5
  z5 := Tryd.sizeOf5
  v5 := Tryd.zeroValue5
  t9 := Tryd.underlying9
  a9 := Tryd.isAgg9
  z9 := Tryd.sizeOf9
  v9 := Tryd.zeroValue9
  t22 := Tryd.underlying60
  a22 := Tryd.isAgg60
  z22 := Tryd.sizeOf60
  v22 := Tryd.zeroValue60
  t25 := Tryd.underlying130
  a25 := Tryd.isAgg130
  z25 := Tryd.sizeOf130
  v25 := Tryd.zeroValue130
  t39 := Tryd.underlying156
  a39 := Tryd.isAgg156
  z39 := Tryd.sizeOf156
  v39 := Tryd.zeroValue156
  t45 := Tryd.underlying201
  a45 := Tryd.isAgg201
  z45 := Tryd.sizeOf201
  v45 := Tryd.zeroValue201
  t46 := Tryd.underlying202
  a46 := Tryd.isAgg202
  z46 := Tryd.sizeOf202
  v46 := Tryd.zeroValue202
  t50 := Tryd.underlying104
  a50 := Tryd.isAgg104
  z50 := Tryd.sizeOf104
  v50 := Tryd.zeroValue104
  t53 := Tryd.underlying167
  a53 := Tryd.isAgg167
  z53 := Tryd.sizeOf167
  v53 := Tryd.zeroValue167
  t55 := Tryd.underlying186
  a55 := Tryd.isAgg186
  z55 := Tryd.sizeOf186
  v55 := Tryd.zeroValue186
  t66 := Tryd.underlying238
  a66 := Tryd.isAgg238
  z66 := Tryd.sizeOf238
  v66 := Tryd.zeroValue238
  t70 := Tryd.underlying242
  a70 := Tryd.isAgg242
  z70 := Tryd.sizeOf242
  v70 := Tryd.zeroValue242
  t76 := Tryd.underlying253
  a76 := Tryd.isAgg253
  z76 := Tryd.sizeOf253
  v76 := Tryd.zeroValue253
  t77 := Tryd.underlying254
  a77 := Tryd.isAgg254
  z77 := Tryd.sizeOf254
  v77 := Tryd.zeroValue254 }
end Go.Proofs
