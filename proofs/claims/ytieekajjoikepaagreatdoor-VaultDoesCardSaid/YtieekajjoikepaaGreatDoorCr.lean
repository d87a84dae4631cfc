/-
  Contract of stream.Crypt.
  The examples of chapter 4: keyholelaw04.streams returns true; keyholeref01.Many.
  keyholelaw04.StreamBack: the law's walk.
-/
import Derived.Test.YtieekajjoikepaaGreatDoorSt
import Derived.Deep.LoopGhost
namespace Go.Proofs.YtieekajjoikepaaGreatDoor
/- Crypt -/
set_option maxRecDepth 100000
open Go.RowKit
set_option linter.unusedVariables false

/-- s with each byte xor that of the blocks from n on, the first k of them done. -/
def cryptTo (key nonce : List UInt8) (n : Int) (s : List UInt8) (k : Nat) : List UInt8 :=
  (List.range s.length).map fun i => if i < k then s.getD i 0 ^^^ (blockL key nonce (n + (i / 64 : Nat))).getD (i % 64) 0 else s.getD i 0

theorem cryptTo_len (key nonce : List UInt8) (n : Int) (s : List UInt8) (k : Nat) : (cryptTo key nonce n s k).length = s.length := by simp [cryptTo]
theorem cryptTo_zero (key nonce : List UInt8) (n : Int) (s : List UInt8) : cryptTo key nonce n s 0 = s := by
  apply List.ext_getElem
  · simp [cryptTo]
  · intro j h1 h2
    simp [cryptTo, h2]
theorem cryptTo_big (key nonce : List UInt8) (n : Int) (s : List UInt8) (k : Nat) (h : s.length ≤ k) : cryptTo key nonce n s k = cryptTo key nonce n s s.length := by
  apply List.ext_getElem
  · simp [cryptTo]
  · intro j h1 h2
    simp only [cryptTo, List.length_map, List.length_range] at h1
    simp only [cryptTo, List.getElem_map, List.getElem_range]
    rw [if_pos (by omega), if_pos h1]
theorem cryptTo_at (key nonce : List UInt8) (n : Int) (s : List UInt8) (k : Nat) (h : k < s.length) : (cryptTo key nonce n s k).getD k 0 = s.getD k 0 := by
  simp [cryptTo, h]
theorem cryptTo_set (key nonce : List UInt8) (n : Int) (s : List UInt8) (k : Nat) (h : k < s.length) :
    (cryptTo key nonce n s k).set k (s.getD k 0 ^^^ (blockL key nonce (n + (k / 64 : Nat))).getD (k % 64) 0) = cryptTo key nonce n s (k + 1) := by
  apply List.ext_getElem
  · simp [cryptTo]
  · intro j h1 h2
    rw [List.getElem_set]
    simp only [cryptTo, List.getElem_map, List.getElem_range]
    by_cases e : k = j
    · subst e
      rw [if_pos rfl, if_pos (by omega)]
    · rw [if_neg e]
      by_cases e2 : j < k
      · rw [if_pos e2, if_pos (by omega)]
      · rw [if_neg e2, if_neg (by omega)]

set_option maxHeartbeats 1000000 in
set_option maxRecDepth 100000 in
theorem crypt_yes (key nonce s : ByteArray) (n : Int) (w : World) (hT : Turns w) (hk : key.size = 32) (ho : nonce.size = 12) (hn : Wd n) (hs : s.size ≤ 4000) (hm : s.size = 0 ∨ n + ((s.size : Int) + 63) / 64 - 1 ≤ 4294967295) :
    Calls Tryz.prog 108 #[.string key, .string nonce, .int .i64 n, .string s] w fun e w' => e = .returned (.tuple #[.string (bs (cryptTo key.data.toList nonce.data.toList n s.data.toList s.size)), .int .i64 0]) ∧ Below w.heap.size w w' := by
  have HT := Lib.hid hT
  have Hk := Lib.hid hk
  have Ho := Lib.hid ho
  have HN := Lib.hid hn
  clear hT hk ho hn
  by_cases hs0 : s.size = 0
  · have hE : s.toList = [] := by
      rw [ByteArray.toList_eq]
      exact List.eq_nil_of_length_eq_zero hs0
    have hE2 : s.toList.isEmpty = true := by rw [hE]; rfl
    have hd : decide (4000 < (s.size : Int)) = false := by simp; omega
    have hle0 : s.size ≤ 0 := by omega
    have Hs00 := Lib.hid hs0
    clear hm hs0
    go_enter Tryz.func108, Tryz.ntmps108
    go_wp2_with fail
    go_step3
    go_wp2_with fail
    refine (first_yes key nonce n w Hk.out Ho.out HN.out).mono ?_
    rintro e w1 ⟨rfl, hw⟩
    obtain ⟨st, hst⟩ : ∃ st, st = firstL key.data.toList nonce.data.toList n := ⟨_, rfl⟩
    rw [← hst]
    have hl16 : st.length = 16 := by rw [hst]; simp [firstL, cutL]
    have Hsz := Lib.hid (show (Tryz.prog.info? 143).map (·.size) = some (ints st).toArray.size by rw [ints_size, hl16]; kernel_rfl)
    have Hs0 := Lib.hid (show (ints st).toArray.size = 16 by rw [ints_size, hl16])
    have H1c := Lib.hid (ints_one st)
    clear hst hl16
    generalize (ints st).toArray = arr at Hsz Hs0 H1c ⊢
    go_wp2_with (refine wpList_store_whole (by rfl) 143 (.tmp 10) (.tmp 22) (by rfl) w1.heap.size arr (by rfl) (by rfl) _ 143 (by exact heap_alloc_new w1 _) (by exact Hs0.out) Hsz.out H1c.out ?_)
    intro w3 hS0 hG2
    have hw2 : Below w.heap.size w w3 := (hw.alloc hw.size _).trans (grownBy_below' hG2 hw.size (by have := hw.size; simp; omega))
    have HW3 := Lib.hid hw2
    clear hw hw2 hS0 hG2
    have hcv := run_bytes_of_string (P := Tryz.prog) w3 9 72 5 s Tryz.underlying9 Tryz.underlying72 Tryz.underlying5
    have hB4 := bytAt_new w3.drew s (grownCap w3 s.size 0 5) 5 ((bytesRow s (grownCap w3 s.size 0 5)).size, (bytesRow s (grownCap w3 s.size 0 5)).size + 1) (by simp [bytesRow])
    have hW4 := HW3.out.drew.alloc (w := w3.drew) HW3.out.size (Obj.cells (bytesRow s (grownCap w3 s.size 0 5)) 5 ((bytesRow s (grownCap w3 s.size 0 5)).size, (bytesRow s (grownCap w3 s.size 0 5)).size + 1))
    generalize w3.drew.alloc (Obj.cells (bytesRow s (grownCap w3 s.size 0 5)) 5 ((bytesRow s (grownCap w3 s.size 0 5)).size, (bytesRow s (grownCap w3 s.size 0 5)).size + 1)) = w4 at hcv hB4 hW4
    generalize grownCap w3 s.size 0 5 = cap at hcv
    have hB5 : BytAt w4 w3.heap.size s.data.toList := hB4
    have hcvb := conv_byt hB5 cap s.size rfl
    have HW4 := Lib.hid hW4
    clear hB4 hB5 hW4
    go_wp2_with fail
    go_step3
    go_wp2_with fail
    go_loopw [13] (fun i wr => i = .int .i64 0 ∧ wr = w4) (fun _ _ => 0)
    case atStart => exact ⟨rfl, rfl⟩
    case round =>
      obtain ⟨rfl, rfl⟩ := hrel
      go_wp2_with fail
      try rw [Exit.noGoto_ret]
      go_ret2
      refine ⟨?_, HW4.out⟩
      rw [Hs00.out, cryptTo_zero]
      rfl
  · have hE : ¬ s.toList = [] := toList_ne hs0
    have hE2 : s.toList.isEmpty = false := by simpa using hE
    have hnw := HN.out
    unfold Wd at hnw
    have hd : decide (4000 < (s.size : Int)) = false := by simp; omega
    have hm' : n + ((s.size : Int) + 63) / 64 - 1 ≤ 4294967295 := by rcases hm with h | h; exact absurd h hs0; exact h
    go_enter Tryz.func108, Tryz.ntmps108
    go_wp2_with fail
    go_step3
    go_wp2_with fail
    refine (first_yes key nonce n w Hk.out Ho.out HN.out).mono ?_
    rintro e w1 ⟨rfl, hw⟩
    obtain ⟨st, hst⟩ : ∃ st, st = firstL key.data.toList nonce.data.toList n := ⟨_, rfl⟩
    rw [← hst]
    have hl16 : st.length = 16 := by rw [hst]; simp [firstL, cutL]
    have Hsz := Lib.hid (show (Tryz.prog.info? 143).map (·.size) = some (ints st).toArray.size by rw [ints_size, hl16]; kernel_rfl)
    have Hs0 := Lib.hid (show (ints st).toArray.size = 16 by rw [ints_size, hl16])
    have H1c := Lib.hid (ints_one st)
    clear hst hl16
    generalize (ints st).toArray = arr at Hsz Hs0 H1c ⊢
    go_wp2_with (refine wpList_store_whole (by rfl) 143 (.tmp 10) (.tmp 22) (by rfl) w1.heap.size arr (by rfl) (by rfl) _ 143 (by exact heap_alloc_new w1 _) (by exact Hs0.out) Hsz.out H1c.out ?_)
    intro w2 hS0 hG2
    have hw2 : Below w.heap.size w w2 := (hw.alloc hw.size _).trans (grownBy_below' hG2 hw.size (by have := hw.size; simp; omega))
    have HW2 := Lib.hid hw2
    clear hw hw2 hS0 hG2
    go_wp2_with fail
    refine (is_b _ _ _ [n + ((s.size : Int) + 64 - 1) / 64 - 1] _ (by exact rd_new w2 _ _) rfl (by simp)).mono ?_
    rintro e w3 ⟨rfl, hw3⟩
    rw [wordsB1.2 ⟨by omega, by omega⟩]
    have HW3 := Lib.hid (Below.chain_alloc HW2.out hw3)
    clear hw3
    have hcv := run_bytes_of_string (P := Tryz.prog) w3 9 72 5 s Tryz.underlying9 Tryz.underlying72 Tryz.underlying5
    have hB4 := bytAt_new w3.drew s (grownCap w3 s.size 0 5) 5 ((bytesRow s (grownCap w3 s.size 0 5)).size, (bytesRow s (grownCap w3 s.size 0 5)).size + 1) (by simp [bytesRow])
    have hW4 := HW3.out.drew.alloc (w := w3.drew) HW3.out.size (Obj.cells (bytesRow s (grownCap w3 s.size 0 5)) 5 ((bytesRow s (grownCap w3 s.size 0 5)).size, (bytesRow s (grownCap w3 s.size 0 5)).size + 1))
    generalize w3.drew.alloc (Obj.cells (bytesRow s (grownCap w3 s.size 0 5)) 5 ((bytesRow s (grownCap w3 s.size 0 5)).size, (bytesRow s (grownCap w3 s.size 0 5)).size + 1)) = w4 at hcv hB4 hW4
    generalize grownCap w3 s.size 0 5 = cap at hcv
    have HB4 := Lib.hid hB4
    have HW4 := Lib.hid hW4
    have hg3 := HW3.out.size
    clear hB4 hW4
    go_wp2_with fail
    go_step3
    go_wp2_with fail
    obtain ⟨g, hg⟩ : ∃ g, g = w3.heap.size := ⟨_, rfl⟩
    have HB5 : Hid (BytAt w4 g s.data.toList) := by rw [hg]; exact HB4.out
    rw [← hg] at hg3 hcv ⊢
    clear HB4 hg hcv
    have hsl := len_data s
    have Hsl := Lib.hid hsl
    clear hsl hE hE2
    go_loopw [13] (fun i wr => ∃ q : Nat, 64 * q ≤ s.size + 63 ∧ i = .int .i64 (64 * q : Nat) ∧ BytAt wr g (cryptTo key.data.toList nonce.data.toList n s.data.toList (64 * q)) ∧ Below w.heap.size w wr) (fun i _ => s.size + 64 - (intOf i).toNat)
    case atStart => exact ⟨0, by omega, rfl, by rw [cryptTo_zero]; exact HB5.out, HW4.out⟩
    case round =>
      obtain ⟨q, hq, rfl, hB, hW⟩ := hrel
      have HB := Lib.hid hB
      have HW := Lib.hid hW
      clear hB hW
      obtain ⟨i64, hi64⟩ : ∃ i64, i64 = 64 * q := ⟨_, rfl⟩
      rw [← hi64] at HB hq ⊢
      have hdv : (i64 : Int) / 64 = (q : Int) := by omega
      have Hi := Lib.hid hi64
      clear hi64
      by_cases hlt : i64 < s.size
      · have hqw : Wd (n + (q : Int)) := ⟨by omega, by have := Hi.out; omega⟩
        have hqb : n + (q : Int) ≤ 4294967295 := hqw.2
        obtain ⟨wo, hwo⟩ : ∃ wo : World, wo = wr := ⟨_, rfl⟩
        rw [← hwo] at HB HW ⊢
        clear hwo
        go_wp2_with fail
        refine (block_yes key nonce (n + (q : Int)) wo (HT.out.below HW.out) Hk.out Ho.out hqw).mono ?_
        rintro e w5 ⟨rfl, hw5⟩
        have HB5 := Lib.hid (HB.out.below hw5)
        have HW5 := Lib.hid (Below.chain HW.out hw5)
        obtain ⟨mask, hmask⟩ : ∃ mask, mask = bs (blockL key.data.toList nonce.data.toList (n + (q : Int))) := ⟨_, rfl⟩
        rw [← hmask]
        have hml : mask.size = 64 := by rw [hmask, bs_size, blockL, joinL_length, sumsTo_len]
        have Hmask := Lib.hid hmask
        have Hml := Lib.hid hml
        clear hw5 hmask hml HB HW
        go_wp2_with fail
        go_loopw [62] (fun x wi => ∃ k : Nat, k ≤ 64 ∧ i64 + k ≤ s.size ∧ x = .int .i64 k ∧ BytAt wi g (cryptTo key.data.toList nonce.data.toList n s.data.toList (i64 + k)) ∧ Below w.heap.size w wi) (fun x _ => 64 - (intOf x).toNat)
        case atStart => exact ⟨0, by omega, by omega, rfl, HB5.out, HW5.out⟩
        case round =>
          obtain ⟨k, hk64, hik, rfl, hBi, hWi⟩ := hrel
          have HWi := Lib.hid hWi
          by_cases hk : k < 64
          · by_cases he : i64 + k = s.size
            · have heB : ((i64 : Int) + (k : Int) == (s.size : Int)) = true := beq_iff_eq.2 (by omega)
              have hcvb := conv_byt hBi cap s.size (by rw [cryptTo_len]; rfl)
              have He := Lib.hid he
              clear hBi hWi he
              generalize hres : cryptTo key.data.toList nonce.data.toList n s.data.toList (i64 + k) = res at hcvb
              have Hres := Lib.hid hres
              clear hres
              go_wp2_with fail
              try rw [Exit.noGoto_ret]
              go_ret2
              refine ⟨?_, HWi.out⟩
              rw [← Hres.out, He.out]
              rfl
            · have heB : ((i64 : Int) + (k : Int) == (s.size : Int)) = false := beq_eq_false_iff_ne.2 (by omega)
              obtain ⟨j, hj⟩ : ∃ j, j = i64 + k := ⟨_, rfl⟩
              rw [← hj] at hBi he hik
              have hjs : j < s.size := by omega
              have hc := (hBi j (by rw [cryptTo_len]; exact hjs)).1
              have hf := (hBi j (by rw [cryptTo_len]; exact hjs)).2
              rw [cryptTo_at _ _ _ _ _ hjs] at hc
              have Hset := Lib.hid (cryptTo_set key.data.toList nonce.data.toList n s.data.toList j hjs)
              have hjq : j / 64 = q := by have := Hi.out; omega
              have hjr : j % 64 = k := by have := Hi.out; omega
              rw [hjq, hjr] at Hset
              obtain ⟨u, hu⟩ : ∃ u, u = s.data.toList.getD j 0 := ⟨_, rfl⟩
              rw [← hu] at hc Hset
              have hw1 : IntKind.i64.wrap ((i64 : Int) + (k : Int)) = (j : Int) := by rw [IntWalk.i64_in _ (by omega)]; omega
              have hkm : (k : Int) < (mask.size : Int) := by have := Hml.out; omega
              have hjI : (j : Int) < (s.size : Int) := by omega
              have HBi := Lib.hid hBi
              have Hj := Lib.hid hj
              clear hBi hWi he hj hu hjq hjr
              go_wp2_with fail
              go_still_tail 11, (by kernel_rfl)
              have hmk : mask[k]'(by have := Hml.out; omega) = (blockL key.data.toList nonce.data.toList (n + (q : Int))).getD k 0 := by
                have h1 := Hmask.out
                subst h1
                have : k < (blockL key.data.toList nonce.data.toList (n + (q : Int))).length := by have := Hml.out; rw [bs_size] at this; omega
                simp [bs, ByteArray.getElem_eq_getElem_data, this]
              rw [xor_u8, hmk]
              change wpList _ _ _ _ _ wr.drew
              clear hmk
              generalize hv : u ^^^ (blockL key.data.toList nonce.data.toList (n + (q : Int))).getD k 0 = v at Hset ⊢
              clear hv
              go_wp2
              go_roundw
              case rel =>
                refine ⟨k + 1, by omega, by have := Hj.out; omega, by go_num, ?_, (HWi.out.setCell (p := ⟨g, j, none⟩) (by simp only; omega) _).drew⟩
                have h := (HBi.out.set j v).drew
                rw [Hset.out] at h
                rw [show i64 + (k + 1) = j + 1 by have := Hj.out; omega]
                exact h
              case measure => simp [intOf]; omega
          · obtain rfl : k = 64 := by omega
            have HBi := Lib.hid hBi
            clear hBi hWi
            go_wp2_with fail
            go_roundw
            case rel =>
              refine ⟨q + 1, by have := Hi.out; omega, ?_, ?_, HWi.out⟩
              · have := Hi.out
                go_num
              · rw [show 64 * (q + 1) = i64 + 64 by have := Hi.out; omega]
                exact HBi.out
            case measure => simp [intOf]; omega
      · have hBB := HB.out
        have hcvb := conv_byt hBB cap s.size (by rw [cryptTo_len]; rfl)
        generalize hres : cryptTo key.data.toList nonce.data.toList n s.data.toList i64 = res at hcvb
        have Hres := Lib.hid hres
        clear hres hBB
        go_wp2_with fail
        try rw [Exit.noGoto_ret]
        go_ret2
        refine ⟨?_, HW.out⟩
        rw [← Hres.out, cryptTo_big _ _ _ _ i64 (by show s.size ≤ i64; omega)]
        rfl

/-- Crypt where the key, the nonce or the counter does not fit. -/
theorem crypt_arg (key nonce s : ByteArray) (n : Int) (w : World) (hk1 : key.size ≤ 9223372036854775807) (ho1 : nonce.size ≤ 9223372036854775807) (h : ¬ (key.size = 32 ∧ nonce.size = 12 ∧ Wd n)) :
    Calls Tryz.prog 108 #[.string key, .string nonce, .int .i64 n, .string s] w fun e w' => e = .returned (.tuple #[.string (bs []), .int .i64 1]) ∧ Below w.heap.size w w' := by
  have H := Lib.hid h
  clear h
  go_enter Tryz.func108, Tryz.ntmps108
  go_wp2_with fail
  go_step3
  go_wp2_with fail
  refine (first_no key nonce n w hk1 ho1 H.out).mono ?_
  rintro e w1 ⟨rfl, hw⟩
  go_wp2_with (refine wpList_store_whole (by rfl) 143 (.tmp 10) (.tmp 22) (by rfl) w1.heap.size zeros16 (by rfl) (by rfl) _ 143 (by exact heap_alloc_new w1 _) (by rfl) (by kernel_rfl) (by kernel_rfl) ?_)
  intro w2 hS0 hG2
  have hw2 : Below w.heap.size w w2 := (hw.alloc hw.size _).trans (grownBy_below' hG2 hw.size (by have := hw.size; simp; omega))
  have HW2 := Lib.hid hw2
  clear hw hw2 hS0 hG2
  go_wp2_with fail
  try rw [Exit.noGoto_ret]
  go_ret2
  exact ⟨rfl, HW2.out⟩

set_option maxHeartbeats 1000000 in
/-- Crypt where the text is too long, or its counters are no words. -/
theorem crypt_limit (key nonce s : ByteArray) (n : Int) (w : World) (hk : key.size = 32) (ho : nonce.size = 12) (hn : Wd n) (hsm : s.size ≤ maxLen) (h : 4000 < s.size ∨ (0 < s.size ∧ s.size ≤ 4000 ∧ 4294967295 < n + ((s.size : Int) + 63) / 64 - 1)) :
    Calls Tryz.prog 108 #[.string key, .string nonce, .int .i64 n, .string s] w fun e w' => e = .returned (.tuple #[.string (bs []), .int .i64 2]) ∧ Below w.heap.size w w' := by
  unfold maxLen at hsm
  have Hk := Lib.hid hk
  have Ho := Lib.hid ho
  have HN := Lib.hid hn
  clear hk ho hn
  have start : ∀ w1 : World, Below w.heap.size w w1 → True := fun _ _ => trivial
  by_cases hbig : 4000 < s.size
  · clear h start
    have hbI : (4000 : Int) < (s.size : Int) := by omega
    go_enter Tryz.func108, Tryz.ntmps108
    go_wp2_with fail
    go_step3
    go_wp2_with fail
    refine (first_yes key nonce n w Hk.out Ho.out HN.out).mono ?_
    rintro e w1 ⟨rfl, hw⟩
    obtain ⟨st, hst⟩ : ∃ st, st = firstL key.data.toList nonce.data.toList n := ⟨_, rfl⟩
    rw [← hst]
    have hl16 : st.length = 16 := by rw [hst]; simp [firstL, cutL]
    have Hsz := Lib.hid (show (Tryz.prog.info? 143).map (·.size) = some (ints st).toArray.size by rw [ints_size, hl16]; kernel_rfl)
    have Hs0 := Lib.hid (show (ints st).toArray.size = 16 by rw [ints_size, hl16])
    have H1c := Lib.hid (ints_one st)
    clear hst hl16
    generalize (ints st).toArray = arr at Hsz Hs0 H1c ⊢
    go_wp2_with (refine wpList_store_whole (by rfl) 143 (.tmp 10) (.tmp 22) (by rfl) w1.heap.size arr (by rfl) (by rfl) _ 143 (by exact heap_alloc_new w1 _) (by exact Hs0.out) Hsz.out H1c.out ?_)
    intro w2 hS0 hG2
    have hw2 : Below w.heap.size w w2 := (hw.alloc hw.size _).trans (grownBy_below' hG2 hw.size (by have := hw.size; simp; omega))
    have HW2 := Lib.hid hw2
    clear hw hw2 hS0 hG2
    go_wp2_with fail
    try rw [Exit.noGoto_ret]
    go_ret2
    exact ⟨rfl, HW2.out⟩
  · have h2 : 0 < s.size ∧ s.size ≤ 4000 ∧ 4294967295 < n + ((s.size : Int) + 63) / 64 - 1 := h.resolve_left hbig
    obtain ⟨hp, h4, hm⟩ := h2
    have hE : ¬ s.toList = [] := toList_ne (by omega)
    have hE2 : s.toList.isEmpty = false := by simpa using hE
    have hnw := HN.out
    unfold Wd at hnw
    clear h hbig start
    go_enter Tryz.func108, Tryz.ntmps108
    go_wp2_with fail
    go_step3
    go_wp2_with fail
    refine (first_yes key nonce n w Hk.out Ho.out HN.out).mono ?_
    rintro e w1 ⟨rfl, hw⟩
    obtain ⟨st, hst⟩ : ∃ st, st = firstL key.data.toList nonce.data.toList n := ⟨_, rfl⟩
    rw [← hst]
    have hl16 : st.length = 16 := by rw [hst]; simp [firstL, cutL]
    have Hsz := Lib.hid (show (Tryz.prog.info? 143).map (·.size) = some (ints st).toArray.size by rw [ints_size, hl16]; kernel_rfl)
    have Hs0 := Lib.hid (show (ints st).toArray.size = 16 by rw [ints_size, hl16])
    have H1c := Lib.hid (ints_one st)
    clear hst hl16
    generalize (ints st).toArray = arr at Hsz Hs0 H1c ⊢
    go_wp2_with (refine wpList_store_whole (by rfl) 143 (.tmp 10) (.tmp 22) (by rfl) w1.heap.size arr (by rfl) (by rfl) _ 143 (by exact heap_alloc_new w1 _) (by exact Hs0.out) Hsz.out H1c.out ?_)
    intro w2 hS0 hG2
    have hw2 : Below w.heap.size w w2 := (hw.alloc hw.size _).trans (grownBy_below' hG2 hw.size (by have := hw.size; simp; omega))
    have HW2 := Lib.hid hw2
    clear hw hw2 hS0 hG2
    go_wp2_with fail
    refine (is_b _ _ _ [n + ((s.size : Int) + 64 - 1) / 64 - 1] _ (by exact rd_new w2 _ _) rfl (by simp)).mono ?_
    rintro e w3 ⟨rfl, hw3⟩
    have hf : wordsB [n + ((s.size : Int) + 64 - 1) / 64 - 1] = false := by
      rw [Bool.eq_false_iff]
      intro e
      have := wordsB1.1 e
      omega
    rw [hf]
    have HW3 := Lib.hid (Below.chain_alloc HW2.out hw3)
    clear hw3 hf
    go_wp2_with fail
    try rw [Exit.noGoto_ret]
    go_ret2
    exact ⟨rfl, HW3.out⟩

/- StreamBack -/
open Go.RowKit
set_option linter.unusedVariables false

theorem u8_xor_twice (a b : UInt8) : (a ^^^ b) ^^^ b = a := by
  rw [UInt8.xor_assoc, UInt8.xor_self, UInt8.xor_zero]
theorem crypt_twice (key nonce : List UInt8) (n : Int) (s : List UInt8) : cryptTo key nonce n (cryptTo key nonce n s s.length) s.length = s := by
  apply List.ext_getElem
  · simp [cryptTo]
  · intro j h1 h2
    simp only [cryptTo, List.getElem_map, List.getElem_range]
    rw [if_pos h2]
    have : (List.map (fun i => if i < s.length then s.getD i 0 ^^^ (blockL key nonce (n + (i / 64 : Nat))).getD (i % 64) 0 else s.getD i 0) (List.range s.length)).getD j 0 = s.getD j 0 ^^^ (blockL key nonce (n + (j / 64 : Nat))).getD (j % 64) 0 := by
      simp [h2]
    rw [this, u8_xor_twice]
    simp [h2]

/-- What Crypt answers: the text and the error's number. -/
def cryptB (key nonce s : ByteArray) (n : Int) : Nat :=
  if key.size = 32 ∧ nonce.size = 12 ∧ 0 ≤ n ∧ n ≤ 4294967295 then (if 4000 < s.size ∨ (0 < s.size ∧ 4294967295 < n + ((s.size : Int) + 63) / 64 - 1) then 2 else 0) else 1
def cryptS (key nonce s : ByteArray) (n : Int) : ByteArray := if cryptB key nonce s n = 0 then bs (cryptTo key.data.toList nonce.data.toList n s.data.toList s.size) else bs []

theorem crypt_any (key nonce s : ByteArray) (n : Int) (w : World) (hT : Turns w) (hk1 : key.size ≤ maxLen) (ho1 : nonce.size ≤ maxLen) (hs1 : s.size ≤ maxLen) :
    Calls Tryz.prog 108 #[.string key, .string nonce, .int .i64 n, .string s] w fun e w' => e = .returned (.tuple #[.string (cryptS key nonce s n), .int .i64 (cryptB key nonce s n : Nat)]) ∧ Below w.heap.size w w' := by
  have hk2 := hk1
  have ho2 := ho1
  unfold maxLen at hk2 ho2
  by_cases h : key.size = 32 ∧ nonce.size = 12 ∧ 0 ≤ n ∧ n ≤ 4294967295
  · by_cases h2 : 4000 < s.size ∨ (0 < s.size ∧ 4294967295 < n + ((s.size : Int) + 63) / 64 - 1)
    · have hb : cryptB key nonce s n = 2 := by rw [cryptB, if_pos h, if_pos h2]
      rw [cryptS, hb]
      refine crypt_limit key nonce s n w h.1 h.2.1 h.2.2 hs1 ?_
      by_cases h4 : 4000 < s.size
      · exact .inl h4
      · have := h2.resolve_left h4
        exact .inr ⟨this.1, by omega, this.2⟩
    · have hb : cryptB key nonce s n = 0 := by rw [cryptB, if_pos h, if_neg h2]
      rw [cryptS, if_pos hb, hb]
      refine crypt_yes key nonce s n w hT h.1 h.2.1 h.2.2 (by omega) ?_
      by_cases h0 : s.size = 0
      · exact .inl h0
      · exact .inr (by
          have : ¬ (0 < s.size ∧ 4294967295 < n + ((s.size : Int) + 63) / 64 - 1) := fun e => h2 (.inr e)
          omega)
  · have hb : cryptB key nonce s n = 1 := by rw [cryptB, if_neg h]
    rw [cryptS, hb]
    exact crypt_arg key nonce s n w hk2 ho2 h

theorem crypt_len (key nonce s : ByteArray) (n : Int) (h : cryptB key nonce s n = 0) : (cryptS key nonce s n).size = s.size := by
  rw [cryptS, if_pos h, bs_size, cryptTo_len]
  rfl
theorem cryptB_len (key nonce s t : ByteArray) (n : Int) (h : t.size = s.size) : cryptB key nonce t n = cryptB key nonce s n := by
  unfold cryptB
  rw [h]
theorem crypt_back (key nonce s : ByteArray) (n : Int) (h : cryptB key nonce s n = 0) : cryptB key nonce (cryptS key nonce s n) n = 0 ∧ cryptS key nonce (cryptS key nonce s n) n = s := by
  have h1 := cryptB_len key nonce s (cryptS key nonce s n) n (crypt_len key nonce s n h)
  have h2 : cryptB key nonce (cryptS key nonce s n) n = 0 := h1.trans h
  refine ⟨h2, ?_⟩
  rw [cryptS, if_pos h2, crypt_len key nonce s n h]
  rw [cryptS, if_pos h, bs_data]
  have e : cryptTo key.data.toList nonce.data.toList n (cryptTo key.data.toList nonce.data.toList n s.data.toList s.size) s.size = s.data.toList := crypt_twice key.data.toList nonce.data.toList n s.data.toList
  rw [e, bs_of]
theorem cryptB_cases (key nonce s : ByteArray) (n : Int) : cryptB key nonce s n = 0 ∨ cryptB key nonce s n = 1 ∨ cryptB key nonce s n = 2 := by
  unfold cryptB
  split
  · split
    · exact .inr (.inr rfl)
    · exact .inl rfl
  · exact .inr (.inl rfl)

end Go.Proofs.YtieekajjoikepaaGreatDoor
