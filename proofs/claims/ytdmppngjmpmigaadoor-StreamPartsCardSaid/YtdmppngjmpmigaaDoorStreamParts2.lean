/-
  keyholelaw04.StreamParts where it lets the input go, and the law.
-/
import Derived.Test.YtdmppngjmpmigaaDoorStreamParts
namespace Go.Proofs.YtdmppngjmpmigaaDoor
open Go.RowKit
set_option linter.unusedVariables false

set_option maxHeartbeats 1000000 in
set_option maxRecDepth 100000 in
theorem streamParts_no0 (key nonce s : ByteArray) (n m : Int) (w : World) (hT : Turns w) (hk : key.size ≤ 9223372036854775807) (ho : nonce.size ≤ 9223372036854775807) (hs : s.size ≤ 9223372036854775807)  (g : 100 < key.size) :
    Calls Tryd.prog 4 #[.string key, .string nonce, .int .i64 n, .string s, .int .i64 m] w fun e w' => e = .returned (.bool true) ∧ Below w.heap.size w w' := by
  have HT := Lib.hid hT
  clear hT
  go_enter Tryd.func4, Tryd.ntmps4
  go_wp2_with fail
  refine (streams_any w HT.out).mono ?_
  rintro e w4 ⟨rfl, hw4⟩
  have HW := Lib.hid hw4
  clear hw4
  go_wp2_with fail
  go_ret
  exact ⟨rfl, HW.out⟩
set_option maxHeartbeats 1000000 in
set_option maxRecDepth 100000 in
theorem streamParts_no1 (key nonce s : ByteArray) (n m : Int) (w : World) (hT : Turns w) (hk : key.size ≤ 9223372036854775807) (ho : nonce.size ≤ 9223372036854775807) (hs : s.size ≤ 9223372036854775807) (g0 : key.size ≤ 100) (g : 100 < nonce.size) :
    Calls Tryd.prog 4 #[.string key, .string nonce, .int .i64 n, .string s, .int .i64 m] w fun e w' => e = .returned (.bool true) ∧ Below w.heap.size w w' := by
  have HT := Lib.hid hT
  clear hT
  go_enter Tryd.func4, Tryd.ntmps4
  go_wp2_with fail
  refine (streams_any w HT.out).mono ?_
  rintro e w4 ⟨rfl, hw4⟩
  have HW := Lib.hid hw4
  clear hw4
  go_wp2_with fail
  go_ret
  exact ⟨rfl, HW.out⟩
set_option maxHeartbeats 1000000 in
set_option maxRecDepth 100000 in
theorem streamParts_no2 (key nonce s : ByteArray) (n m : Int) (w : World) (hT : Turns w) (hk : key.size ≤ 9223372036854775807) (ho : nonce.size ≤ 9223372036854775807) (hs : s.size ≤ 9223372036854775807) (g0 : key.size ≤ 100) (g1 : nonce.size ≤ 100) (g : 4000 < s.size) :
    Calls Tryd.prog 4 #[.string key, .string nonce, .int .i64 n, .string s, .int .i64 m] w fun e w' => e = .returned (.bool true) ∧ Below w.heap.size w w' := by
  have HT := Lib.hid hT
  clear hT
  go_enter Tryd.func4, Tryd.ntmps4
  go_wp2_with fail
  refine (streams_any w HT.out).mono ?_
  rintro e w4 ⟨rfl, hw4⟩
  have HW := Lib.hid hw4
  clear hw4
  go_wp2_with fail
  go_ret
  exact ⟨rfl, HW.out⟩
set_option maxHeartbeats 1000000 in
set_option maxRecDepth 100000 in
theorem streamParts_no3 (key nonce s : ByteArray) (n m : Int) (w : World) (hT : Turns w) (hk : key.size ≤ 9223372036854775807) (ho : nonce.size ≤ 9223372036854775807) (hs : s.size ≤ 9223372036854775807) (g0 : key.size ≤ 100) (g1 : nonce.size ≤ 100) (g2 : s.size ≤ 4000) (g : m < 0) :
    Calls Tryd.prog 4 #[.string key, .string nonce, .int .i64 n, .string s, .int .i64 m] w fun e w' => e = .returned (.bool true) ∧ Below w.heap.size w w' := by
  have HT := Lib.hid hT
  clear hT
  go_enter Tryd.func4, Tryd.ntmps4
  go_wp2_with fail
  refine (streams_any w HT.out).mono ?_
  rintro e w4 ⟨rfl, hw4⟩
  have HW := Lib.hid hw4
  clear hw4
  go_wp2_with fail
  go_ret
  exact ⟨rfl, HW.out⟩
set_option maxHeartbeats 1000000 in
set_option maxRecDepth 100000 in
theorem streamParts_no4 (key nonce s : ByteArray) (n m : Int) (w : World) (hT : Turns w) (hk : key.size ≤ 9223372036854775807) (ho : nonce.size ≤ 9223372036854775807) (hs : s.size ≤ 9223372036854775807) (g0 : key.size ≤ 100) (g1 : nonce.size ≤ 100) (g2 : s.size ≤ 4000) (g3 : 0 ≤ m) (g : 62 < m) :
    Calls Tryd.prog 4 #[.string key, .string nonce, .int .i64 n, .string s, .int .i64 m] w fun e w' => e = .returned (.bool true) ∧ Below w.heap.size w w' := by
  have HT := Lib.hid hT
  clear hT
  go_enter Tryd.func4, Tryd.ntmps4
  go_wp2_with fail
  refine (streams_any w HT.out).mono ?_
  rintro e w4 ⟨rfl, hw4⟩
  have HW := Lib.hid hw4
  clear hw4
  go_wp2_with fail
  go_ret
  exact ⟨rfl, HW.out⟩
set_option maxHeartbeats 1000000 in
set_option maxRecDepth 100000 in
theorem streamParts_no5 (key nonce s : ByteArray) (n m : Int) (w : World) (hT : Turns w) (hk : key.size ≤ 9223372036854775807) (ho : nonce.size ≤ 9223372036854775807) (hs : s.size ≤ 9223372036854775807) (g0 : key.size ≤ 100) (g1 : nonce.size ≤ 100) (g2 : s.size ≤ 4000) (g3 : 0 ≤ m) (g4 : m ≤ 62) (g : (s.size : Int) < 64 * m) :
    Calls Tryd.prog 4 #[.string key, .string nonce, .int .i64 n, .string s, .int .i64 m] w fun e w' => e = .returned (.bool true) ∧ Below w.heap.size w w' := by
  have HT := Lib.hid hT
  clear hT
  go_enter Tryd.func4, Tryd.ntmps4
  go_wp2_with fail
  refine (streams_any w HT.out).mono ?_
  rintro e w4 ⟨rfl, hw4⟩
  have HW := Lib.hid hw4
  clear hw4
  go_wp2_with fail
  go_ret
  exact ⟨rfl, HW.out⟩

theorem streamParts_law (key : ByteArray) (hk : key.size ≤ maxLen) (nonce : ByteArray) (ho : nonce.size ≤ maxLen) (n : Int) (s : ByteArray) (hs : s.size ≤ maxLen) (m : Int) (w : World) (hT : Turns w) :
    Calls Tryd.prog 4 #[.string key, .string nonce, .int .i64 n, .string s, .int .i64 m] w fun e w' => e = .returned (.bool true) ∧ Below w.heap.size w w' := by
  unfold maxLen at hk ho hs
  by_cases c0 : 100 < key.size
  · exact streamParts_no0 key nonce s n m w hT hk ho hs c0
  by_cases c1 : 100 < nonce.size
  · exact streamParts_no1 key nonce s n m w hT hk ho hs (by omega) c1
  by_cases c2 : 4000 < s.size
  · exact streamParts_no2 key nonce s n m w hT hk ho hs (by omega) (by omega) c2
  by_cases c3 : m < 0
  · exact streamParts_no3 key nonce s n m w hT hk ho hs (by omega) (by omega) (by omega) c3
  by_cases c4 : 62 < m
  · exact streamParts_no4 key nonce s n m w hT hk ho hs (by omega) (by omega) (by omega) (by omega) c4
  by_cases c5 : (s.size : Int) < 64 * m
  · exact streamParts_no5 key nonce s n m w hT hk ho hs (by omega) (by omega) (by omega) (by omega) (by omega) c5
  obtain ⟨m, rfl⟩ := Int.eq_ofNat_of_zero_le (show 0 ≤ m by omega)
  by_cases h : cryptB key nonce s n = 0 ∧ n ≤ 4294967295 - m
  · exact streamParts_yes key nonce s n m w hT (by omega) (by omega) (by omega) (by omega) (by omega) h.1 h.2
  · exact streamParts_off key nonce s n m w hT (by omega) (by omega) (by omega) (by omega) (by omega) h
end Go.Proofs.YtdmppngjmpmigaaDoor
