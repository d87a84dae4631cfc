/-
  Rows that a call makes itself, element behind element: append, and what the row reads as.
-/
import Derived.Test.YtkeeejkijbaooaaDoorSha2
import Derived.Deep.AppendLies
import Derived.OwnWalk
namespace Go.Proofs.YtkeeejkijbaooaaDoor
open Go.RowKit
set_option linter.unusedVariables false

/-- v is a row of the call's own that holds the cells xs, n elements. -/
abbrev OwnR (w : World) (B : Nat) (e : TypeId) (size : Nat) (v : Value) (n : Nat) (xs : List Value) : Prop := w.ownsRow B e size v n xs

theorem wpList_append_new {P : Program} {ops : Array Oper} {rest : List Oper} {o : Oper} {a : Act} {Q : Exit → Act → World → Prop} (hgd : o.guard = none) (s x : Operand) (t : TypeId)
    (ho : o.op = .call { callee := .builtin .append, args := #[s, x], argTypes := #[t, t] })
    (B : Nat) (e : TypeId) (z : Value) (size bytes : Nat) (ht : P.underlying t = some (.slice e)) (hi : (P.info? e).map (fun i => (i.zero, i.size, i.bytes)) = some (some z, size, bytes)) (hzs : z.cells.size = size) (hsz : 0 < size)
    (w0 : World) (news : Array Value) (tb : TypeId) (v : Value) (n : Nat) (xs : List Value) (hs : a.eval s = v) (hown : w0.ownsRow B e size v n xs)
    (g0 m c : Nat) (hx : a.eval x = .slice (some ⟨g0, 0, none⟩) m c) (hg0 : w0.heap.size = g0) (hl : news.size = m * size) (h1 : news.toList.all (·.oneCell') = true)
    (hm : 0 < m) (h63 : n + m ≤ 1000000000) (hbytes : bytes ≤ 1000) (hB : B ≤ w0.heap.size)
    (h : ∀ g cap w', w'.ownsRow B e size (.slice (some ⟨g, 0, none⟩) (n + m) cap) (n + m) (xs ++ news.toList) → Below B w0 w' → (∀ k, k < w0.heap.size → some k ≠ v.ownBlock → w'.heap[k]? = w0.heap[k]?) → (v.ownBlock = some g ∨ w0.heap.size < g) → g < w'.heap.size → wpList P ops Q rest (a.put o.dst (.slice (some ⟨g, 0, none⟩) (n + m) cap)) w') :
    wpList P ops Q (o :: rest) a (w0.alloc (.cells news tb)) := by
  subst hg0
  obtain ⟨i, hi0, hi1, hi2, hi3⟩ := info_parts hi
  have hown' : (w0.alloc (.cells news tb)).ownsRow B e size v n xs := hown.alloc _
  refine wpList_append_lies (w0.alloc (.cells news tb)) hgd s x t ho B e i z size bytes ht hi0 hi1 hi2 hi3 hzs hsz v n xs hs hown' ⟨w0.heap.size, 0, none⟩ m c news.toList hx (by simpa using hl) (World.news_of_block (heap_alloc_new w0 _)) (fun u hu => List.all_eq_true.1 h1 u hu) hm (by unfold maxLen; omega) (by
    have : (n + m) * bytes ≤ 1000000000 * 1000 := Nat.mul_le_mul h63 hbytes
    omega) (by simp; omega) _ rfl ?_
  intro g cap w' ho hg hat hlt
  have hgr : ∀ k, k < w0.heap.size → some k ≠ v.ownBlock → w'.heap[k]? = w0.heap[k]? := fun k hk hne => (hg.block k (by simp; omega) hne).trans (Below.heap_alloc _ _ _ hk)
  refine h g cap w' ho ⟨hg.os, hg.tape, hg.output, ?_, fun k hk => hgr k (by omega) (fun e => ?_)⟩ hgr ?_ hlt
  · have := hg.size
    simp at this
    omega
  · rcases hown.2 with ⟨hv, _⟩ | ⟨g1, cap1, cur, hv, hb, _⟩
    · rw [hv] at e; cases e
    · rw [hv] at e
      injection e with e
      simp only at e
      omega
  · rcases hat with h | h
    · exact .inl h
    · right; simp at h; omega

/-- The same from a row that is read. -/
theorem wpList_append_from {P : Program} {ops : Array Oper} {rest : List Oper} {o : Oper} {a : Act} {Q : Exit → Act → World → Prop} (hgd : o.guard = none) (s x : Operand) (t : TypeId)
    (ho : o.op = .call { callee := .builtin .append, args := #[s, x], argTypes := #[t, t] })
    (B : Nat) (e : TypeId) (z : Value) (size bytes : Nat) (ht : P.underlying t = some (.slice e)) (hi : (P.info? e).map (fun i => (i.zero, i.size, i.bytes)) = some (some z, size, bytes)) (hzs : z.cells.size = size) (hsz : 0 < size)
    (w0 : World) (news : List Value) (v : Value) (n : Nat) (xs : List Value) (hs : a.eval s = v) (hown : w0.ownsRow B e size v n xs)
    (ad : Addr) (m c : Nat) (hx : a.eval x = .slice (some ad) m c) (hnews : Rd w0 (some ad) news) (hl : news.length = m * size) (h1 : ∀ u ∈ news, u.oneCell' = true)
    (hm : 0 < m) (h63 : n + m ≤ 1000000000) (hbytes : bytes ≤ 1000) (hB : B ≤ w0.heap.size)
    (h : ∀ g cap w', w'.ownsRow B e size (.slice (some ⟨g, 0, none⟩) (n + m) cap) (n + m) (xs ++ news) → Below B w0 w' → (∀ k, k < w0.heap.size → some k ≠ v.ownBlock → w'.heap[k]? = w0.heap[k]?) → (v.ownBlock = some g ∨ w0.heap.size ≤ g) → g < w'.heap.size → wpList P ops Q rest (a.put o.dst (.slice (some ⟨g, 0, none⟩) (n + m) cap)) w') :
    wpList P ops Q (o :: rest) a w0 := by
  obtain ⟨i, hi0, hi1, hi2, hi3⟩ := info_parts hi
  refine wpList_append_lies w0 hgd s x t ho B e i z size bytes ht hi0 hi1 hi2 hi3 hzs hsz v n xs hs hown ad m c news hx hl (fun j u hu => ?_) h1 hm (by unfold maxLen; omega) (by
    have : (n + m) * bytes ≤ 1000000000 * 1000 := Nat.mul_le_mul h63 hbytes
    omega) hB _ rfl ?_
  · obtain ⟨b, off, hA, hc⟩ := hnews j u hu
    injection hA with hA
    subst hA
    have e : (⟨b, off, none⟩ : Addr).add j = ⟨b, off + j, none⟩ := by
      unfold Addr.add
      split
      · rename_i h; subst h; rfl
      · rfl
    rw [e, hc]
  · intro g cap w' ho hg hat hlt
    have hgr : ∀ k, k < w0.heap.size → some k ≠ v.ownBlock → w'.heap[k]? = w0.heap[k]? := fun k hk hne => hg.block k hk hne
    refine h g cap w' ho ⟨hg.os, hg.tape, hg.output, hg.size, fun k hk => hgr k (by omega) (fun e => ?_)⟩ hgr ?_ hlt
    · rcases hown.2 with ⟨hv, _⟩ | ⟨g1, cap1, cur, hv, hb, _⟩
      · rw [hv] at e; cases e
      · rw [hv] at e
        injection e with e
        simp only at e
        omega
    · rcases hat with h | h
      · exact .inl h
      · right; omega
theorem own_keep {w w' : World} {B : Nat} {e : TypeId} {size : Nat} {v : Value} {n : Nat} {xs : List Value} (h : w.ownsRow B e size v n xs) (hb : Below w.heap.size w w') : w'.ownsRow B e size v n xs := by
  refine ⟨h.1, ?_⟩
  rcases h.2 with h | ⟨g, cap, cur, hv, hB, hg, hr⟩
  · exact .inl h
  · exact .inr ⟨g, cap, cur, hv, hB, cells_below hg hb, hr⟩
/-- What such a row reads as. -/
theorem own_rd {w : World} {B : Nat} {e : TypeId} {size : Nat} {A : Option Addr} {m cap : Nat} {n : Nat} {xs : List Value} (h : w.ownsRow B e size (.slice A m cap) n xs) : Rd w A xs := by
  rcases h.2 with ⟨hv, hn⟩ | ⟨g, cap, cur, hv, hB, hg, hc1, hc2, hc3, hc4⟩
  · have : xs = [] := List.eq_nil_of_length_eq_zero (by rw [h.1, hn, Nat.zero_mul])
    subst this
    exact Rd.nil _ _
  · injection hv with hA _ _
    subst hA
    intro i u hu
    refine ⟨g, 0, rfl, ?_⟩
    rw [Nat.zero_add]
    unfold World.cell?
    simp only [hg]
    have hi : i < xs.length := by
      rcases Nat.lt_or_ge i xs.length with h | h
      · exact h
      · rw [List.getElem?_eq_none h] at hu; cases hu
    have hi' : i < n * size := by rw [← h.1]; exact hi
    have : cur.toList[i]? = some u := by
      rw [← hc4, List.getElem?_take_of_lt hi'] at hu
      exact hu
    rw [Array.getElem?_toList] at this
    simpa using this
theorem own_new {w : World} {B : Nat} {e : TypeId} {size n : Nat} {cs : Array Value} (hB : B ≤ w.heap.size) (hs : cs.size = n * size) (hn : n ≤ maxLen) : (w.alloc (.cells cs e)).ownsRow B e size (.slice (some ⟨w.heap.size, 0, none⟩) n n) n cs.toList := by
  refine ⟨by simpa using hs, .inr ⟨w.heap.size, n, cs, rfl, hB, heap_alloc_new w _, Nat.le_refl _, hn, hs, ?_⟩⟩
  rw [List.take_of_length_le (by simp; omega)]

/-- Bytes as values. -/
def bytesV (l : List UInt8) : List Value := l.map fun x => Value.int .u8 x.toNat
theorem bytesV_append (l m : List UInt8) : bytesV (l ++ m) = bytesV l ++ bytesV m := by simp [bytesV]
theorem bytesV_length (l : List UInt8) : (bytesV l).length = l.length := by simp [bytesV]
theorem bytesV_one (l : List UInt8) : (bytesV l).all (·.oneCell') = true := by
  rw [List.all_eq_true]
  intro u hu
  obtain ⟨x, _, rfl⟩ := List.mem_map.1 hu
  rfl
theorem uint8_info : (Tryd.prog.info? 5).map (fun i => (i.zero, i.size, i.bytes)) = some (some (.int .u8 0), 1, 1) := by kernel_rfl
/-- string(b) of a row that holds bytes -/
theorem conv_rd {w : World} {A : Addr} {l : List UInt8} (h : Rd w (some A) (bytesV l)) (cap n : Nat) (hn : n = l.length) : (convert 80 9 (.slice (some A) n cap)).run Tryd.prog w = .ok (.string (bs l)) w := by
  subst hn
  refine run_convert_bytes_back (P := Tryd.prog) w 80 9 5 A cap l Tryd.underlying80 Tryd.underlying5 Tryd.underlying9 fun j hj => ?_
  obtain ⟨b, off, hA, hc⟩ := h j (.int .u8 (l[j]).toNat) (by simp [bytesV, hj])
  injection hA with hA
  subst hA
  have e : (⟨b, off, none⟩ : Addr).add j = ⟨b, off + j, none⟩ := by
    unfold Addr.add
    split
    · rename_i h; subst h; rfl
    · rfl
  rw [e, hc]
/-- How long a slice is. -/
def lenOf : Value → Nat
  | .slice _ n _ => n
  | _ => 0
theorem toList_nil (r : ByteArray) : r.toList = [] ↔ r.size = 0 := by rw [ByteArray.toList_eq, List.eq_nil_iff_length_eq_zero, len_data]
theorem toList_empty (r : ByteArray) (h : r.size = 0) : r.toList.isEmpty = true := by rw [(toList_nil r).2 h]; rfl
theorem toList_some (r : ByteArray) (h : r.size ≠ 0) : r.toList.isEmpty = false := by
  rw [← Bool.not_eq_true, List.isEmpty_iff, toList_nil]
  exact h
theorem text_ne' {s t : ByteArray} (h : ¬ s = t) : (s.toList == t.toList) = false := by
  rw [ByteArray.toList_eq, ByteArray.toList_eq]
  refine beq_eq_false_iff_ne.2 fun e => h ?_
  apply ByteArray.ext
  apply Array.ext'
  exact e
/-- A block of two cells: what it holds; both written anew. -/
theorem two_cells {w : World} {g : Nat} {t : TypeId} {a b : Value} (h : w.heap[g]? = some (.cells #[a, b] t (0, 0))) :
    w.cell? ⟨g, 0, none⟩ = some a ∧ w.cell? ⟨g, 1, none⟩ = some b ∧ w.frozen? ⟨g, 0, none⟩ = false ∧ w.frozen? ⟨g, 1, none⟩ = false := by
  refine ⟨?_, ?_, ?_, ?_⟩
  · unfold World.cell?; simp only [h]; rfl
  · unfold World.cell?; simp only [h]; rfl
  · unfold World.frozen?; simp only [h]; rfl
  · unfold World.frozen?; simp only [h]; rfl
theorem two_set {w : World} {g : Nat} {t : TypeId} {a b : Value} (h : w.heap[g]? = some (.cells #[a, b] t (0, 0))) (x y : Value) :
    ((w.setCell ⟨g, 0, none⟩ x).setCell ⟨g, 1, none⟩ y).heap[g]? = some (.cells #[x, y] t (0, 0)) := by
  have := blk_set (blk_set h 0 x) 1 y
  exact this
theorem two_by {w0 w : World} {g B : Nat} (h : Below B w0 w) (hB : B ≤ g) (x y : Value) : Below B w0 ((w.setCell ⟨g, 0, none⟩ x).setCell ⟨g, 1, none⟩ y) :=
  (h.setCell (p := ⟨g, 0, none⟩) hB x).setCell (p := ⟨g, 1, none⟩) hB y
/-- How long a text is. -/
def sizeOfText : Value → Nat
  | .string s => s.size
  | _ => 0
end Go.Proofs.YtkeeejkijbaooaaDoor
