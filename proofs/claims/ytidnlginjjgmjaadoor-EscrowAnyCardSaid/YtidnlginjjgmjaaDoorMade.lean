/-
  Contracts of escrow.made, both forms, and of escrow.Export.
-/
import Derived.Test.YtidnlginjjgmjaaDoorShareText
import Derived.Test.YtidnlginjjgmjaaDoorAt
namespace Go.Proofs.YtidnlginjjgmjaaDoor
open Go.RowKit
set_option linter.unusedVariables false
set_option maxRecDepth 100000
set_option maxHeartbeats 1000000

def textsV (l : List ByteArray) : List Value := l.map Value.string
theorem textsV_append (l m : List ByteArray) : textsV (l ++ m) = textsV l ++ textsV m := by simp [textsV]
/-- The text of a share, if it has one. -/
def putOne (p : Shr) : Option ByteArray := (putShareRes p.1 p.2.data.toList).map bs
def putAll (l : List Shr) : List ByteArray := l.filterMap putOne
/-- The share of a text, if it is one's. -/
def getOne (s : ByteArray) : Option Shr := (getShareRes s.data.toList).map fun q => (q.1, bs q.2)
def getAll (l : List ByteArray) : List Shr := l.filterMap getOne
theorem string_info : (Tryd.prog.info? 9).map (fun i => (i.zero, i.size, i.bytes)) = some (some (.string ⟨#[]⟩), 1, 16) := by kernel_rfl
theorem filterMap_snoc {α β : Type} (f : α → Option β) (l : List α) (k : Nat) (h : k < l.length) : (l.take (k + 1)).filterMap f = (l.take k).filterMap f ++ (f l[k]).toList := by
  rw [List.take_succ_eq_append_getElem h, List.filterMap_append]
  cases hf : f l[k] <;> simp [hf]
theorem sharesV_app (l m : List Shr) : sharesV (l ++ m) = sharesV l ++ sharesV m := by simp [sharesV]

theorem own_base_le {w : World} {B B' : Nat} {e : TypeId} {size : Nat} {v : Value} {n : Nat} {xs : List Value} (h : w.ownsRow B' e size v n xs) (hB : B ≤ B') : w.ownsRow B e size v n xs := by
  refine ⟨h.1, ?_⟩
  rcases h.2 with h | ⟨g, cap, cur, hv, hb, hr⟩
  · exact .inl h
  · exact .inr ⟨g, cap, cur, hv, by omega, hr⟩
theorem made_put (l : List Shr) (A : Option Addr) (n c : Nat) (w : World) (hr : Rd w A (sharesV l)) (hn : n = l.length) (hl : l.length ≤ 1000) (hT : Rounds w) (hs : ∀ p ∈ l, p.2.size ≤ 1000000) :
    Calls Tryd.prog 14 #[.slice A n c, .func (.func 12) #[] #[]] w fun e w' => ∃ B cap, e = .returned (.slice B (putAll l).length cap) ∧ w'.ownsRow w.heap.size 9 1 (.slice B (putAll l).length cap) (putAll l).length (textsV (putAll l)) ∧ Below w.heap.size w w' := by
  have HR := Lib.hid hr
  have HN := Lib.hid hn
  have HT := Lib.hid hT
  have HS := Lib.hid hs
  have hnl : n ≤ 1000 := by omega
  clear hr hn hT hs
  go_enter Tryd.func14, Tryd.ntmps14
  go_wp2_with fail
  go_loopw [5, 12] (fun v x wr => ∃ (i cap : Nat) (B : Option Addr), i ≤ n ∧ x = .int .i64 (i : Nat) ∧ v = .slice B (putAll (l.take i)).length cap ∧ wr.ownsRow w.heap.size 9 1 v (putAll (l.take i)).length (textsV (putAll (l.take i))) ∧ Below w.heap.size w wr) (fun _ x _ => n - (intOf x).toNat)
  case atStart => exact ⟨0, 0, none, by omega, rfl, rfl, ⟨rfl, .inl ⟨rfl, rfl⟩⟩, Below.refl _ _⟩
  case round =>
    obtain ⟨i, cap, B, hi, rfl, rfl, ho, hW⟩ := hrel
    have HO := Lib.hid ho
    have HW := Lib.hid hW
    by_cases hlt : i < n
    · have hil : i < l.length := by rw [← HN.out]; exact hlt
      obtain ⟨b, off, hA, c1, c2'⟩ := (HR.out.below hW).shr hil
      subst hA
      have Hsn := Lib.hid (show putAll (l.take (i + 1)) = putAll (l.take i) ++ (putOne l[i]).toList from filterMap_snoc putOne l i hil)
      have Hb := Lib.hid (HS.out _ (List.getElem_mem hil))
      have hpl : (putAll (l.take i)).length ≤ i := by
        have h1 := List.length_filterMap_le putOne (l.take i)
        simp only [List.length_take] at h1
        unfold putAll
        omega
      generalize putAll (l.take i) = ps at HO Hsn hpl
      generalize l[i] = p at c1 c2' Hsn Hb
      obtain ⟨x, bb⟩ := p
      simp only at c1 c2' Hb
      have HTr := Lib.hid (HT.out.below (hW.alloc hW.size (.cells #[.int .i64 x, .string bb] 31)))
      clear ho hW
      go_wp2_with fail
      refine (putShare_any x bb _ HTr.out (by have := Hb.out; omega)).mono ?_
      rintro e w2 ⟨rfl, hb2⟩
      have hb02 := Below.chain_alloc (Below.refl wr.heap.size wr) hb2
      have HO2 := Lib.hid (own_keep HO.out hb02)
      have HW2 := Lib.hid (Below.chain HW.out hb02)
      cases hres : putShareRes x bb.data.toList with
      | none =>
        have Hsn2 := Lib.hid (show putAll (l.take (i + 1)) = ps by rw [Hsn.out, putOne, hres]; simp)
        clear hres hb2 hb02
        simp only [textOr]
        go_wp2_with fail
        go_roundw
        case rel => exact ⟨i + 1, cap, B, by omega, by go_num, by rw [Hsn2.out], by rw [Hsn2.out]; exact HO2.out, HW2.out⟩
        case measure => simp [intOf]; omega
      | some t =>
        have Hsn2 := Lib.hid (show putAll (l.take (i + 1)) = ps ++ [bs t] by rw [Hsn.out, putOne, hres]; simp)
        clear hres hb2 hb02
        simp only [textOr]
        generalize bs t = tx at Hsn2 ⊢
        have hp2 : ps.length ≤ 1000 := by omega
        go_wp2_with (refine wpList_append_new (by rfl) (.tmp 24) (.tmp 26) 23 (by rfl) w.heap.size 9 (.string ⟨#[]⟩) 1 16 Tryd.underlying23 string_info rfl (by omega) w2 _ _ _ _ _ (by rfl) HO2.out _ 1 1 (by rfl) (by rfl) (by rfl) (by rfl) (by omega) (by omega) (by omega) (by exact HW2.out.size) ?_)
        intro g2 cap2 w3 ho3 hb3 _ _ _
        have HO3 := Lib.hid ho3
        have HW3 := Lib.hid (HW2.out.trans hb3)
        clear ho3 hb3
        go_wp2_with fail
        go_roundw
        case rel =>
          refine ⟨i + 1, cap2, some ⟨g2, 0, none⟩, by omega, by go_num, by rw [Hsn2.out]; simp, ?_, HW3.out⟩
          rw [Hsn2.out, textsV_append]
          simp only [List.length_append, List.length_cons, List.length_nil]
          exact HO3.out
        case measure => simp [intOf]; omega
    · obtain rfl : i = n := by omega
      rw [HN.out, List.take_of_length_le (Nat.le_refl _)] at HO ⊢
      clear ho hW
      go_wp2_with fail
      go_ret
      exact ⟨B, cap, rfl, HO.out, HW.out⟩

theorem made_get (l : List ByteArray) (A : Option Addr) (n c : Nat) (w : World) (hr : Rd w A (textsV l)) (hn : n = l.length) (hl : l.length ≤ 1000) (hT : ArmTabs w) (hs : ∀ p ∈ l, p.size ≤ 1000000) :
    Calls Tryd.prog 18 #[.slice A n c, .func (.func 9) #[] #[]] w fun e w' => ∃ B cap, e = .returned (.slice B (getAll l).length cap) ∧ w'.ownsRow w.heap.size 31 2 (.slice B (getAll l).length cap) (getAll l).length (sharesV (getAll l)) ∧ Below w.heap.size w w' := by
  have HR := Lib.hid hr
  have HN := Lib.hid hn
  have HT := Lib.hid hT
  have HS := Lib.hid hs
  have hnl : n ≤ 1000 := by omega
  clear hr hn hT hs
  go_enter Tryd.func18, Tryd.ntmps18
  go_wp2_with fail
  go_loopw [5, 12] (fun v x wr => ∃ (i cap : Nat) (B : Option Addr), i ≤ n ∧ x = .int .i64 (i : Nat) ∧ v = .slice B (getAll (l.take i)).length cap ∧ wr.ownsRow w.heap.size 31 2 v (getAll (l.take i)).length (sharesV (getAll (l.take i))) ∧ Below w.heap.size w wr) (fun _ x _ => n - (intOf x).toNat)
  case atStart => exact ⟨0, 0, none, by omega, rfl, rfl, ⟨rfl, .inl ⟨rfl, rfl⟩⟩, Below.refl _ _⟩
  case round =>
    obtain ⟨i, cap, B, hi, rfl, rfl, ho, hW⟩ := hrel
    have HO := Lib.hid ho
    have HW := Lib.hid hW
    by_cases hlt : i < n
    · have hil : i < l.length := by rw [← HN.out]; exact hlt
      obtain ⟨b, off, hA, hc⟩ := (HR.out.below hW) i (.string l[i]) (by simp [textsV, hil])
      subst hA
      have Hsn := Lib.hid (show getAll (l.take (i + 1)) = getAll (l.take i) ++ (getOne l[i]).toList from filterMap_snoc getOne l i hil)
      have Hb := Lib.hid (HS.out _ (List.getElem_mem hil))
      have hpl : (getAll (l.take i)).length ≤ i := by
        have h1 := List.length_filterMap_le getOne (l.take i)
        simp only [List.length_take] at h1
        unfold getAll
        omega
      generalize getAll (l.take i) = ps at HO Hsn hpl
      generalize l[i] = s at hc Hsn Hb
      have HTr := Lib.hid (HT.out.below hW)
      clear ho hW
      go_wp2_with fail
      refine (getShare_any s _ HTr.out Hb.out).mono ?_
      rintro e w2 ⟨rfl, hb2⟩
      have HO2 := Lib.hid (own_keep HO.out hb2)
      have HW2 := Lib.hid (Below.chain HW.out hb2)
      cases hres : getShareRes s.data.toList with
      | none =>
        have Hsn2 := Lib.hid (show getAll (l.take (i + 1)) = ps by rw [Hsn.out, getOne, hres]; simp)
        clear hres hb2
        simp only [shareOr, shareV]
        have hbA := (Below.refl w2.heap.size w2).alloc (Nat.le_refl _) (.cells #[.int .i64 0, .string (bs [])] 31)
        go_wp2_with fail
        go_roundw
        case rel => exact ⟨i + 1, cap, B, by omega, by go_num, by rw [Hsn2.out], by rw [Hsn2.out]; exact own_keep HO2.out hbA, HW2.out.alloc HW2.out.size _⟩
        case measure => simp [intOf]; omega
      | some q =>
        obtain ⟨x, bl⟩ := q
        have Hsn2 := Lib.hid (show getAll (l.take (i + 1)) = ps ++ [(x, bs bl)] by rw [Hsn.out, getOne, hres]; simp)
        clear hres hb2
        simp only [shareOr, shareV]
        generalize bs bl = bb at Hsn2 ⊢
        have hp2 : ps.length ≤ 1000 := by omega
        have hbA := (Below.refl w2.heap.size w2).alloc (Nat.le_refl _) (.cells #[.int .i64 x, .string bb] 31)
        have HO3 := Lib.hid (own_keep HO2.out hbA)
        go_wp2_with (refine wpList_append_new (by rfl) (.tmp 24) (.tmp 26) 37 (by rfl) w.heap.size 31 (.agg #[.int .i64 0, .string ⟨#[]⟩]) 2 24 Tryd.underlying37 share_info rfl (by omega) (w2.alloc (.cells #[.int .i64 x, .string bb] 31)) _ _ _ _ _ (by rfl) HO3.out _ 1 1 (by rfl) (by simp) (by rfl) (by rfl) (by omega) (by omega) (by omega) (by have := HW2.out.size; simp; omega) ?_)
        intro g2 cap2 w3 ho3 hb3 _ _ _
        have HO4 := Lib.hid ho3
        have HW3 := Lib.hid ((HW2.out.alloc HW2.out.size _).trans hb3)
        clear ho3 hb3
        go_wp2_with fail
        go_roundw
        case rel =>
          refine ⟨i + 1, cap2, some ⟨g2, 0, none⟩, by omega, by go_num, by rw [Hsn2.out]; simp, ?_, HW3.out⟩
          rw [Hsn2.out, sharesV_app]
          simp only [List.length_append, List.length_cons, List.length_nil]
          exact HO4.out
        case measure => simp [intOf]; omega
    · obtain rfl : i = n := by omega
      rw [HN.out, List.take_of_length_le (Nat.le_refl _)] at HO ⊢
      clear ho hW
      go_wp2_with fail
      go_ret
      exact ⟨B, cap, rfl, HO.out, HW.out⟩

/-- The texts of a secret's shares. -/
def exportL (s t : List UInt8) (n m : Nat) : List ByteArray := putAll (splitL s t n m)
theorem splitL_size (s t : List UInt8) (n m : Nat) : ∀ p ∈ splitL s t n m, p.2.size = 32 := by
  intro p hp
  obtain ⟨i, _, rfl⟩ := List.mem_map.1 hp
  simp [bs_size, shareL]
theorem splitL_length (s t : List UInt8) (n m : Nat) : (splitL s t n m).length = n := by simp [splitL]
theorem export_yes (s t : ByteArray) (n m : Nat) (w : World) (hT : Rounds w) (hs : s.size = 32) (ht : t.size = 32 * m) (hn : n ≤ 255) (hm : m + 1 ≤ n) :
    Calls Tryd.prog 7 #[.string s, .int .i64 (n : Int), .int .i64 ((m + 1 : Nat) : Int), .string t] w fun e w' => ∃ B cap, e = .returned (.tuple #[.slice B (exportL s.data.toList t.data.toList n m).length cap, .int .i64 0]) ∧ w'.ownsRow w.heap.size 9 1 (.slice B (exportL s.data.toList t.data.toList n m).length cap) (exportL s.data.toList t.data.toList n m).length (textsV (exportL s.data.toList t.data.toList n m)) ∧ Below w.heap.size w w' := by
  have HT := Lib.hid hT
  have Hs := Lib.hid hs
  have Ht := Lib.hid ht
  obtain ⟨k, hk⟩ : ∃ k, k = m + 1 := ⟨_, rfl⟩
  rw [← hk]
  have Hk := Lib.hid hk
  clear hT hs ht hk
  go_enter Tryd.func7, Tryd.ntmps7
  go_wp2_with fail
  refine Calls.mono (Hk.out ▸ split_yes s t n m w Hs.out Ht.out hn hm) ?_
  rintro e w1 ⟨g, rfl, ho1, hb1⟩
  have HO1 := Lib.hid ho1
  clear ho1
  go_wp2_with fail
  refine (made_put (splitL s.data.toList t.data.toList n m) _ n n _ (own_rd HO1.out) (splitL_length _ _ _ _).symm (by rw [splitL_length]; omega) (HT.out.below hb1) (fun p hp => by rw [splitL_size _ _ _ _ p hp]; omega)).mono ?_
  rintro e w2 ⟨B, cap, rfl, ho2, hb2⟩
  have HO2 := Lib.hid ho2
  obtain ⟨E, hE⟩ : ∃ E, E = exportL s.data.toList t.data.toList n m := ⟨_, rfl⟩
  rw [show putAll (splitL s.data.toList t.data.toList n m) = E from hE.symm] at HO2 ⊢
  have HE := Lib.hid hE
  clear hE
  have hb := Below.chain hb1 hb2
  clear ho2
  go_wp2_with fail
  go_ret2
  exact ⟨B, cap, by rw [← HE.out]; rfl, by rw [← HE.out]; exact own_base_le HO2.out hb1.size, hb⟩
theorem export_no (s t : ByteArray) (n k : Int) (w : World) (h : splitOK s t n k = false) :
    Calls Tryd.prog 7 #[.string s, .int .i64 n, .int .i64 k, .string t] w fun e w' => e = .returned (.tuple #[.slice none 0 0, .int .i64 1]) ∧ Below w.heap.size w w' := by
  have H := Lib.hid h
  clear h
  go_enter Tryd.func7, Tryd.ntmps7
  go_wp2_with fail
  refine (split_no s t n k _ H.out).mono ?_
  rintro e w1 ⟨rfl, hb1⟩
  go_wp2_with fail
  go_ret2
  exact ⟨rfl, hb1⟩
end Go.Proofs.YtidnlginjjgmjaaDoor
