/-
  The contract of play.Size.
-/
import Derived.Test.YtomheapokfphiaaDoorLinOpsPlain
import Derived.Test.YtomheapokfphiaaDoorLinAlloc
namespace Go.Proofs.YtomheapokfphiaaDoor
open Go Go.RowKit Go.Shelf

def sizesO : Obj := .cells #[.int .i64 0, .int .i64 1, .int .i64 100, .int .i64 128, .int .i64 129, .int .i64 192, .int .i64 256, .int .i64 300, .int .i64 384, .int .i64 500, .int .i64 512, .int .i64 700, .int .i64 1000, .int .i64 1024, .int .i64 1500, .int .i64 2048, .int .i64 3000, .int .i64 4096, .int .i64 5000, .int .i64 6144, .int .i64 8192, .int .i64 9000, .int .i64 12288, .int .i64 12289, .int .i64 20000, .int .i64 30000] 3
theorem sizes_at (w : World) (m : Nat) (h : m < 26) : (w.alloc sizesO).cell? ⟨w.heap.size, m, none⟩ = some (.int .i64 (sizes26.getD m 0)) := by
  rw [blk_cell (World.alloc_heap_new w sizesO) m]
  show ((sizes26.map iV).toArray : Array Value)[m]? = _
  rw [List.getElem?_toArray, List.getElem?_map, getD_get (show m < sizes26.length from h)]
  rfl
set_option maxHeartbeats 1600000 in
theorem size47_any (k : Nat) (hk : k ≤ 255) (w : World) : Calls Tryd.prog 47 #[.int .i64 k] w fun e w' => e = .returned (.int .i64 (sizeOf26 k)) ∧ w' = w.alloc sizesO := by
  have hlt : k % 26 < 26 := Nat.mod_lt _ (by decide)
  have hc := sizes_at w (k % 26) hlt
  unfold sizesO at hc ⊢
  have hm : (k : Int).tmod 26 = ((k % 26 : Nat) : Int) := by rw [Int.tmod_eq_emod_of_nonneg (by omega)]; omega
  have h0 : (0 : Int) ≤ ((k % 26 : Nat) : Int) := by omega
  have h1 : ((k % 26 : Nat) : Int) < 26 := by omega
  have hsz : sizes26.getD (k % 26) 0 = sizeOf26 k := rfl
  rw [hsz] at hc
  have Hsz := Lib.hid hsz
  clear hsz
  generalize sizeOf26 k = z at *
  obtain ⟨m, em⟩ : ∃ m, k % 26 = m := ⟨_, rfl⟩
  rw [em] at hc hm h0 h1 hlt
  clear em
  go_enter Tryd.func47, Tryd.ntmps47
  go_wp2
  go_ret
  exact ⟨rfl, rfl⟩
end Go.Proofs.YtomheapokfphiaaDoor
