/-
  ScriptEnd's walk.
-/
import Derived.Test.YtkdigojjeiidmaaDoorEndPlain
import Derived.Test.YtkdigojjeiidmaaDoorTurned
import Derived.Test.YtkdigojjeiidmaaDoorScriptOwn
import Derived.Test.YtkdigojjeiidmaaDoorGrow
namespace Go.Proofs.YtkdigojjeiidmaaDoor
open Go Go.RowKit Go.Shelf

/-- Two scripts alike, of so many picks. -/
theorem end_same (s : ScriptP) (hs : s.draws.length = 8 ∧ s.calls.length ≤ 6 ∧ s.picks.length ≤ 4398046511104 ∧ ∀ cl ∈ s.calls, cl.length ≤ 11 ∧ ∀ o ∈ cl, o.L.length ≤ 8) (b1 b2 : Nat) (va vb : Value) (w : World) (h1 : ScriptOwn w b1 va s) (h2 : ScriptOwn w b2 vb s) :
    Calls Tryd.prog 11 #[va, vb] w fun e w' => e = .returned (.bool true) ∧ Below w.heap.size w w' :=
  sameScript_any b1 b2 va vb s w h1 h2 (by omega) (by omega) (by omega) (fun cl hcl => by have := hs.2.2.2 cl hcl; exact ⟨by omega, fun o ho => by have := this.2 o ho; omega⟩)
theorem decode_size (ns : List Nat) : (decodeM ns).draws.length = 8 ∧ (decodeM ns).calls.length ≤ 6 ∧ ∀ cl ∈ (decodeM ns).calls, cl.length ≤ 11 ∧ ∀ o ∈ cl, o.L.length ≤ 8 :=
  ⟨drawsM_len ns 8, by show (listsM ns _).length ≤ _; rw [listsM_len]; have := threads_ge ns; omega, lists_small ns _⟩

theorem own_ne_blk {w : World} {B e s n g : Nat} {v : Value} {xs : List Value} {cs : Array Value} {e' : TypeId} {f : Nat × Nat} (h : w.ownsRow B e s v n xs) (hb : w.heap[g]? = some (.cells cs e' f)) (hne : e ≠ e') : v.ownBlock ≠ some g := by
  intro hg
  rcases h.2 with ⟨rfl, _⟩ | ⟨g', cap, cur, rfl, _, hh, _⟩
  · cases hg
  · obtain rfl : g' = g := by simpa [Value.ownBlock] using hg
    exact blk_type hh hb hne rfl

set_option maxRecDepth 100000 in
set_option maxHeartbeats 4000000 in
theorem end_none (ad : Option Addr) (cap : Nat) (ns : List Nat) (v2 : Value) (w : World) (hb : BytesAt w ad ns) (hcap : ns.length ≤ cap) (hroom : ns.length ≤ 1048576) (ht : Pow w) (h0 : ns.length ≤ endOf ns) :
    Calls Tryd.prog 3 #[.slice ad ns.length cap, v2] w fun e w' => e = .returned (.bool true) ∧ Below w.heap.size w w' := by
  have hD := decode_any ad cap ns w hb hcap (by omega)
  have HD := Lib.hid (fun (w' : World) (ad' : Option Addr) (cap' : Nat) (h : BytesAt w' ad' (ns ++ List.replicate 300 0)) (hc : (ns ++ List.replicate 300 0).length ≤ cap') => decode_any ad' cap' _ w' h hc (by simp; omega))
  have HBy := Lib.hid hb
  have HT := Lib.hid ht
  have H255 := Lib.hid hb.2.1
  have hp0 : (decodeM ns).picks = [] := by show picksM _ _ _ _ = []; rw [show ns.length - endOf ns = 0 by omega]; rfl
  have HZ := Lib.hid (zeros_decode ns 300)
  have hsz := decode_size ns
  have HS := Lib.hid (fun b1 b2 va vb w h1 h2 => end_same { decodeM ns with picks := [] } ⟨hsz.1, hsz.2.1, by simp, hsz.2.2⟩ b1 b2 va vb w h1 h2)
  have hlen : (ns ++ List.replicate 300 0).length = ns.length + 300 := by simp
  clear hb hcap ht h0 hsz
  generalize hn : ns.length = n at *
  have Hn := Lib.hid hn
  have Hlen := Lib.hid hlen
  clear hn hlen
  generalize hs : decodeM ns = s at *
  obtain ⟨pages, threads, draws, calls, picks⟩ := s
  simp only at hp0
  subst hp0
  generalize hs2 : decodeM (ns ++ List.replicate 300 0) = s2 at *
  obtain ⟨pages2, threads2, draws2, calls2, picks2⟩ := s2
  have HZ := HZ.out
  simp only [ScriptP.mk.injEq, and_true] at HZ
  obtain ⟨rfl, rfl, rfl, rfl⟩ := HZ
  simp only at HS
  go_enter Tryd.func3, Tryd.ntmps3
  go_wp2_with fail
  refine hD.mono ?_
  rintro e w1 ⟨⟨v, rfl, dv, cv, pv, rfl, hd, hc, hp⟩, hb⟩
  rw [hs] at hd hc hp ⊢
  simp only [List.length_nil] at hd hc hp ⊢
  obtain ⟨da, dc, rfl⟩ := own_slice hd
  obtain ⟨ca, cc, rfl⟩ := hc.slice
  obtain ⟨pa, pc, rfl⟩ := own_slice hp
  obtain ⟨nd, ed⟩ : ∃ nd, draws2.length = nd := ⟨_, rfl⟩
  obtain ⟨nc, ec⟩ : ∃ nc, calls2.length = nc := ⟨_, rfl⟩
  have HSO := Lib.hid (show ScriptOwn w1 w.heap.size (.agg #[.int .i64 pages2, .int .i64 threads2, .slice da nd dc, .slice ca nc cc, .slice none 0 0]) ⟨pages2, threads2, draws2, calls2, []⟩ from ⟨_, _, _, by rw [ed, ec], hd, hc, World.ownsRow_nil _ _ _ _⟩)
  clear hd hc hp
  rw [ed, ec]
  clear ed ec
  generalize hO : (Obj.cells #[.int .i64 pages2, .int .i64 threads2, .slice da nd dc, .slice ca nc cc, .slice pa 0 pc] 29) = O1 at *
  have hk1 : Below w1.heap.size w1 (w1.alloc O1) := new_below _
  have hk2 : Below (w1.alloc O1).heap.size (w1.alloc O1) ((w1.alloc O1).alloc (.cells #[] 5)) := new_below _
  have hs1 : (w1.alloc O1).heap.size = w1.heap.size + 1 := by simp
  have hX : ((w1.alloc O1).alloc (.cells #[] 5)).heap[w1.heap.size]? = some (.cells #[.int .i64 pages2, .int .i64 threads2, .slice da nd dc, .slice ca nc cc, .slice pa 0 pc] 29 (0, 0)) := by
    rw [hk2.block _ (by omega), hO]
    exact World.alloc_heap_new _ _
  have hE : ((w1.alloc O1).alloc (.cells #[] 5)).ownsRow w1.heap.size 5 1 (.slice (some ⟨w1.heap.size + 1, 0, none⟩) 0 0) 0 [] := by
    rw [← hs1]
    exact World.ownsRow_made _ _ 0 hk1.size (Nat.zero_le _) rfl
  have hBy := HBy.out.kept (CellsKept.of (below_more hb (below_more hk1 hk2)))
  have HB2 := Lib.hid (below_more hk1 hk2)
  have HX := Lib.hid hX
  have HE := Lib.hid hE
  have HBy2 := Lib.hid hBy
  have hsz2 := HB2.out.size
  clear hX hE hBy hk1 hk2
  subst hO
  go_wp2_with (at_builtin; first
    | (refine wpList_append_bytes rfl _ _ rfl w1.heap.size _ 0 [] rfl HE.out ad n cap ns rfl HBy2.out Hn.out (by omega) (by exact hsz2) ?_; intro v3 w3 hown3 hgrow3; have HO3 := Lib.hid hown3; have HG3 := Lib.hid hgrow3; have hsz3 := Nat.le_trans hsz2 hgrow3.size; clear hown3 hgrow3)
    | (refine wpList_append_noughts rfl _ _ rfl w1.heap.size _ (0 + n) ([] ++ ns.map bV) rfl HO3.out 300 rfl (by decide) (by omega) hsz3 ?_; intro v4 w4 hown4 hgrow4))
  have HB4 := Lib.hid ((HB2.out.grown HG3.out hsz2 (fun k e => by have := own_later HE.out k e; omega)).grown hgrow4 hsz3 (fun k e => by have := own_later HO3.out k e; omega))
  have hX3 := blk_grown HG3.out HX.out (own_ne_blk HE.out HX.out (by decide))
  have hX4 := blk_grown hgrow4 hX3 (own_ne_blk HO3.out hX3 (by decide))
  have h4 : w4.ownsRow w1.heap.size 5 1 v4 (n + 300) ((ns ++ List.replicate 300 0).map bV) := by
    rw [List.map_append, ← noughts_map]
    simpa using hown4
  obtain ⟨ad4, cap4, rfl, hby4, _, hc4⟩ := bytes_of_owns h4 (by
    intro x hx
    rcases List.mem_append.1 hx with hx | hx
    · exact H255.out x hx
    · have := List.eq_of_mem_replicate hx; omega)
  have hD4 := HD.out w4 ad4 cap4 hby4 (by rw [Hlen.out]; exact hc4)
  rw [Hlen.out] at hD4
  have HX4 := Lib.hid hX4
  clear hX3 hX4 h4 hown4 hgrow4 hby4
  refine hD4.mono ?_
  rintro e w5 ⟨⟨v, rfl, dv5, cv5, pv5, rfl, hd, hc, hp⟩, hb5⟩
  rw [hs2] at hd hc hp ⊢
  simp only at hd hc hp ⊢
  obtain ⟨da5, dc5, rfl⟩ := own_slice hd
  obtain ⟨ca5, cc5, rfl⟩ := hc.slice
  obtain ⟨pa5, pc5, rfl⟩ := own_slice hp
  obtain ⟨nd5, ed⟩ : ∃ nd, draws2.length = nd := ⟨_, rfl⟩
  obtain ⟨nc5, ec⟩ : ∃ nc, calls2.length = nc := ⟨_, rfl⟩
  obtain ⟨np5, ep⟩ : ∃ np, picks2.length = np := ⟨_, rfl⟩
  have HSO5 := Lib.hid (show ScriptOwn w5 w4.heap.size (.agg #[.int .i64 pages2, .int .i64 threads2, .slice da5 nd5 dc5, .slice ca5 nc5 cc5, .slice none 0 0]) ⟨pages2, threads2, draws2, calls2, []⟩ from ⟨_, _, _, by rw [ed, ec], hd, hc, World.ownsRow_nil _ _ _ _⟩)
  have hX5 := (hb5.block _ (Array.getElem?_eq_some_iff.1 HX4.out).1).trans HX4.out
  rw [ed, ec, ep]
  have c0 := blk_cell hX5 0
  have c1 := blk_cell hX5 1
  have c2 := blk_cell hX5 2
  have c3 := blk_cell hX5 3
  have c4 := blk_cell hX5 4
  have f4 := blk_frozen hX5 4
  simp at c0 c1 c2 c3 c4
  have hlt5 := (Array.getElem?_eq_some_iff.1 hX5).1
  have hlt4 := (Array.getElem?_eq_some_iff.1 HX4.out).1
  have HB5 := Lib.hid (below_more HB4.out hb5)
  clear hd hc hp ed ec ep hX5 hb5
  go_wp2_with fail
  have hs5 := HB5.out.size
  generalize hO2 : (Obj.cells #[.int .i64 pages2, .int .i64 threads2, .slice da5 nd5 dc5, .slice ca5 nc5 cc5, .slice none 0 0] 29) = O2
  have h6 : Below w1.heap.size w1 ((w5.setCell ⟨w1.heap.size, 4, none⟩ (.slice none 0 0)).alloc O2) := (HB5.out.setCell (p := ⟨w1.heap.size, 4, none⟩) (Nat.le_refl _) _).alloc (by simp; omega) _
  have hk5 : ∀ g, w4.heap.size ≤ g → g < w5.heap.size → ((w5.setCell ⟨w1.heap.size, 4, none⟩ (.slice none 0 0)).alloc O2).heap[g]? = w5.heap[g]? := fun g h1 h2 => by
    rw [Below.heap_alloc _ _ _ (by simp; exact h2)]
    exact Below.heap_setCell _ _ _ _ (show g ≠ w1.heap.size by have := hlt4; omega)
  have hS := HS.out _ _ _ _ _ (HSO.out.kept (fun g _ hg => h6.block g hg)) (HSO5.out.kept hk5)
  have HB6 := Lib.hid (below_more hb h6)
  generalize ((w5.setCell ⟨w1.heap.size, 4, none⟩ (.slice none 0 0)).alloc O2) = W6 at *
  refine hS.mono ?_
  rintro e w7 ⟨rfl, hb7⟩
  have HB7 := Lib.hid (below_more HB6.out hb7)
  have HAz := awake_any w7 (HT.out.below HB7.out)
  clear hb7 h6 hk5 hS
  go_wp2_with fail
  refine HAz.mono ?_
  rintro e w8 ⟨rfl, hb8⟩
  have HB8 := Lib.hid (below_more HB7.out hb8)
  clear hb8
  go_wp2
  go_ret
  exact ⟨rfl, HB8.out⟩
theorem own_take {w : World} {B e n cap k : Nat} {a : Addr} {xs : List Value} (h : w.ownsRow B e 1 (.slice (some a) n cap) n xs) (hk : k ≤ n) : w.ownsRow B e 1 (.slice (some a) k cap) k (xs.take k) := by
  have hl := h.1
  rcases h.2 with ⟨hv, _⟩ | ⟨g, cap', cur, hv, hB, hh, hnc, hcm, hsz, htk⟩
  · cases hv
  · injection hv with e1 e2 e3
    subst e3
    refine ⟨by rw [List.length_take]; omega, .inr ⟨g, cap, cur, by rw [e1], hB, hh, by omega, hcm, hsz, ?_⟩⟩
    rw [← htk, List.take_take]
    congr 1
    omega
theorem own_form {w : World} {B e s n : Nat} {v : Value} {xs : List Value} (h : w.ownsRow B e s v n xs) (hn : 0 < n) : ∃ g cap, v = .slice (some ⟨g, 0, none⟩) n cap ∧ n ≤ cap := by
  rcases h.2 with ⟨_, h0⟩ | ⟨g, cap, cur, hv, _, _, hc, _⟩
  · omega
  · exact ⟨g, cap, hv, hc⟩

set_option maxRecDepth 100000 in
set_option maxHeartbeats 4000000 in
theorem end_some (ad : Option Addr) (cap : Nat) (ns : List Nat) (ad2 : Option Addr) (cap2 : Nat) (ms : List Nat) (w : World) (hb : BytesAt w ad ns) (hcap : ns.length ≤ cap) (hroom : ns.length ≤ 1048576)
    (hb2 : BytesAt w ad2 ms) (hroom2 : ms.length ≤ 1048576) (ht : Pow w) (h0 : endOf ns < ns.length) :
    Calls Tryd.prog 3 #[.slice ad ns.length cap, .slice ad2 ms.length cap2] w fun e w' => e = .returned (.bool true) ∧ Below w.heap.size w w' := by
  have hD := decode_any ad cap ns w hb hcap (by omega)
  have HD := Lib.hid (fun (w' : World) (ad' : Option Addr) (cap' : Nat) (h : BytesAt w' ad' (ns ++ ms)) (hc : (ns ++ ms).length ≤ cap') => decode_any ad' cap' _ w' h hc (by simp; omega))
  have HBy := Lib.hid hb
  have HBm := Lib.hid hb2
  have HT := Lib.hid ht
  have H255 := Lib.hid (show ∀ x ∈ ns ++ ms, x ≤ 255 from fun x hx => (List.mem_append.1 hx).elim (hb.2.1 x) (hb2.2.1 x))
  have hsz := decode_size ns
  have hmd := more_decode ms (Nat.le_of_lt h0)
  have hmt := more_take ms (Nat.le_of_lt h0)
  have Hmp := Lib.hid (fun (i : Nat) (hi : i < ms.length) => more_pick (ns := ns) (ms := ms) (Nat.le_of_lt h0) hi)
  have H2l := Lib.hid (show (picksM (ns ++ ms) (threadsOf ns) (endOf ns) (ns.length - endOf ns + ms.length)).length = ns.length - endOf ns + ms.length from picksM_len _ _ _ _)
  have hl1 : (decodeM ns).picks.length = ns.length - endOf ns := picksM_len _ _ _ _
  have hT1 : (decodeM ns).threads = ((threadsOf ns : Nat) : Int) := rfl
  have hP1 : (decodeM ns).picks = picksM ns (threadsOf ns) (endOf ns) (ns.length - endOf ns) := rfl
  rw [← hP1] at hmt
  have hT := threads_ge ns
  have HS := Lib.hid (fun b1 b2 va vb w h1 h2 => end_same (decodeM ns) ⟨hsz.1, hsz.2.1, by rw [hl1]; omega, hsz.2.2⟩ b1 b2 va vb w h1 h2)
  have h255m := bt_le hb2.2.1
  have hlen : (ns ++ ms).length = ns.length + ms.length := by simp
  have hnp : 0 < ns.length - endOf ns ∧ ns.length - endOf ns ≤ 1048576 := by omega
  clear hb hcap ht h0 hsz hb2 hP1
  generalize ns.length - endOf ns = np at *
  generalize threadsOf ns = T at *
  generalize picksM (ns ++ ms) T (endOf ns) (np + ms.length) = P2 at *
  generalize hn : ns.length = n at *
  generalize hm : ms.length = m at *
  have Hn := Lib.hid hn
  have Hm := Lib.hid hm
  have Hlen := Lib.hid hlen
  have Hmt := Lib.hid hmt
  clear hn hm hlen hmt
  generalize hs : decodeM ns = s at *
  obtain ⟨pages, threads, draws, calls, picks⟩ := s
  simp only at hl1 hT1 hmd Hmt
  subst hT1
  go_enter Tryd.func3, Tryd.ntmps3
  go_wp2_with fail
  refine hD.mono ?_
  rintro e w1 ⟨⟨v, rfl, dv, cv, pv, rfl, hd, hc, hp⟩, hb⟩
  rw [hs] at hd hc hp ⊢
  simp only at hd hc hp ⊢
  rw [hl1] at hp
  obtain ⟨da, dc, rfl⟩ := own_slice hd
  obtain ⟨ca, cc, rfl⟩ := hc.slice
  obtain ⟨pa, pc, rfl⟩ := own_slice hp
  obtain ⟨nd, ed⟩ : ∃ nd, draws.length = nd := ⟨_, rfl⟩
  obtain ⟨nc, ec⟩ : ∃ nc, calls.length = nc := ⟨_, rfl⟩
  have HSO := Lib.hid (show ScriptOwn w1 w.heap.size (.agg #[.int .i64 pages, .int .i64 (T : Nat), .slice da nd dc, .slice ca nc cc, .slice pa np pc]) ⟨pages, (T : Nat), draws, calls, picks⟩ from ⟨_, _, _, by rw [ed, ec], hd, hc, by rw [hl1]; exact hp⟩)
  clear hd hc hp
  rw [ed, ec]
  have hz : ((np : Int) == 0) = false := by simp; omega
  generalize hO : (Obj.cells #[.int .i64 pages, .int .i64 (T : Nat), .slice da nd dc, .slice ca nc cc, .slice pa np pc] 29) = O1 at *
  have hk1 : Below w1.heap.size w1 (w1.alloc O1) := new_below _
  have hk2 : Below (w1.alloc O1).heap.size (w1.alloc O1) ((w1.alloc O1).alloc (.cells #[] 5)) := new_below _
  have hs1 : (w1.alloc O1).heap.size = w1.heap.size + 1 := by simp
  have hX : ((w1.alloc O1).alloc (.cells #[] 5)).heap[w1.heap.size]? = some (.cells #[.int .i64 pages, .int .i64 (T : Nat), .slice da nd dc, .slice ca nc cc, .slice pa np pc] 29 (0, 0)) := by
    rw [hk2.block _ (by omega), hO]
    exact World.alloc_heap_new _ _
  have hE : ((w1.alloc O1).alloc (.cells #[] 5)).ownsRow w1.heap.size 5 1 (.slice (some ⟨w1.heap.size + 1, 0, none⟩) 0 0) 0 [] := by
    rw [← hs1]
    exact World.ownsRow_made _ _ 0 hk1.size (Nat.zero_le _) rfl
  have hBy := HBy.out.kept (CellsKept.of (below_more hb (below_more hk1 hk2)))
  have HB2 := Lib.hid (below_more hk1 hk2)
  have HX := Lib.hid hX
  have HE := Lib.hid hE
  have HBy2 := Lib.hid hBy
  have hsz2 := HB2.out.size
  have HB2w := Lib.hid (below_more hb (below_more hk1 hk2))
  clear hX hE hBy hk1 hk2
  subst hO
  go_wp2_with (at_builtin; first
    | (refine wpList_append_bytes rfl _ _ rfl w1.heap.size _ 0 [] rfl HE.out ad n cap ns rfl HBy2.out Hn.out (by omega) (by exact hsz2) ?_; intro v3 w3 hown3 hgrow3; have HO3 := Lib.hid hown3; have HG3 := Lib.hid hgrow3; have hsz3 := Nat.le_trans hsz2 hgrow3.size; have HB3w := Lib.hid (HB2.out.grown hgrow3 hsz2 (fun k e => by have := own_later HE.out k e; omega)); clear hown3 hgrow3)
    | (refine wpList_append_bytes rfl _ _ rfl w1.heap.size _ (0 + n) ([] ++ ns.map bV) rfl HO3.out ad2 m cap2 ms rfl (HBm.out.kept (CellsKept.of (below_more hb HB3w.out))) Hm.out (by omega) hsz3 ?_; intro v4 w4 hown4 hgrow4))
  have HB4 := Lib.hid (HB3w.out.grown hgrow4 hsz3 (fun k e => by have := own_later HO3.out k e; omega))
  have hX3 := blk_grown HG3.out HX.out (own_ne_blk HE.out HX.out (by decide))
  have hX4 := blk_grown hgrow4 hX3 (own_ne_blk HO3.out hX3 (by decide))
  have h4 : w4.ownsRow w1.heap.size 5 1 v4 (n + m) ((ns ++ ms).map bV) := by
    rw [List.map_append]
    simpa using hown4
  obtain ⟨ad4, cap4, rfl, hby4, _, hc4⟩ := bytes_of_owns h4 H255.out
  have hD4 := HD.out w4 ad4 cap4 hby4 (by rw [Hlen.out]; exact hc4)
  rw [Hlen.out] at hD4
  have HX4 := Lib.hid hX4
  clear hX3 hX4 h4 hown4 hgrow4 hby4
  refine hD4.mono ?_
  rintro e w5 ⟨⟨v, rfl, dv5, cv5, pv5, rfl, hd, hc, hp⟩, hb5⟩
  rw [hmd] at hd hc hp ⊢
  simp only at hd hc hp ⊢
  obtain ⟨q, hq⟩ : ∃ q, np + m = q := ⟨_, rfl⟩
  rw [H2l.out, hq] at hp
  obtain ⟨da5, dc5, rfl⟩ := own_slice hd
  obtain ⟨ca5, cc5, rfl⟩ := hc.slice
  obtain ⟨pa5, pc5, rfl, hpc5⟩ := own_form hp (by omega)
  have HP5 := Lib.hid hp
  rw [ed] at hd ⊢
  have Hd5 := Lib.hid hd
  have Hc5 := Lib.hid hc
  rw [ec] at Hc5 ⊢
  have hX5 := (hb5.block _ (Array.getElem?_eq_some_iff.1 HX4.out).1).trans HX4.out
  have c4 := blk_cell hX5 4
  simp at c4
  have hlt5 := (Array.getElem?_eq_some_iff.1 hX5).1
  have hlt4 := (Array.getElem?_eq_some_iff.1 HX4.out).1
  have HB5 := Lib.hid (below_more HB4.out hb5)
  have HX5 := Lib.hid hX5
  have Hed := Lib.hid ed
  have Hec := Lib.hid ec
  clear hd hc hp ed ec hX5 hb5
  have hne : ((q : Int) != (np : Int) + (m : Int)) = false := by simp; omega
  have Hq := Lib.hid hq
  have hq2 : q ≤ 2097152 := by omega
  clear hq
  go_wp2_with fail
  obtain ⟨W6, eW⟩ : ∃ W6, w5.alloc (.cells #[.int .i64 pages, .int .i64 (T : Nat), .slice da5 nd dc5, .slice ca5 nc cc5, .slice (some ⟨pa5, 0, none⟩) q pc5] 29) = W6 := ⟨_, rfl⟩
  have hY6 : W6.heap[w5.heap.size]? = some (.cells #[.int .i64 pages, .int .i64 (T : Nat), .slice da5 nd dc5, .slice ca5 nc cc5, .slice (some ⟨pa5, 0, none⟩) q pc5] 29 (0, 0)) := by rw [← eW]; exact World.alloc_heap_new _ _
  have hk6 : Below w5.heap.size w5 W6 := by rw [← eW]; exact new_below _
  have HX6 := Lib.hid ((hk6.block _ hlt5).trans HX5.out)
  have HB6 := Lib.hid (below_more HB5.out hk6)
  have HY6 := Lib.hid hY6
  have HK6 := Lib.hid hk6
  clear hY6 hk6 c4
  rw [eW]
  clear eW
  have hT0 : ¬ (T : Int) = 0 := by omega
  go_loopw [8] (fun i wr => ∃ k : Nat, k ≤ m ∧ i = .int .i64 k ∧ Below W6.heap.size W6 wr) (fun i _ => m - (intOf i).toNat)
  case atStart => exact ⟨0, by omega, rfl, Below.refl _ _⟩
  case round =>
    obtain ⟨k, hk, rfl, HB⟩ := hrel
    obtain ⟨Wo, hWo⟩ : ∃ Wo, Wo = wr := ⟨_, rfl⟩
    subst hWo
    have hXo := (HB.block _ (Array.getElem?_eq_some_iff.1 HX6.out).1).trans HX6.out
    have hYo := (HB.block _ (Array.getElem?_eq_some_iff.1 HY6.out).1).trans HY6.out
    have cX := blk_cell hXo 4
    have cT := blk_cell hXo 1
    have cY := blk_cell hYo 4
    simp at cX cT cY
    have HB := Lib.hid HB
    by_cases hkm : k < m
    · have hki : (k : Int) < m := by omega
      obtain ⟨g5, cap5, hv5, hg5, hc5⟩ := own_cell HP5.out (below_more HK6.out HB.out) (Nat.le_refl _) (j := np + k) (by have := Hq.out; omega) (by have := Hq.out; omega)
      obtain rfl : pa5 = g5 := by injection hv5 with e; injection e with e; injection e
      rw [List.getElem?_map, Hmp.out k hkm] at hc5
      simp only [Option.map_some, iV] at hc5
      obtain ⟨g2, o2, rfl, hg2, hcb⟩ : ∃ g o, ad2 = some ⟨g, o, none⟩ ∧ g < w.heap.size ∧ Wo.cell? ⟨g, o + k, none⟩ = some (.int .u8 (bt ms k : Nat)) := by
        rcases HBm.out.2.2 with h | ⟨g, o, e, hg, hc⟩
        · have := Hm.out; rw [h] at this; simp at this; omega
        · have hmk : k < ms.length := by rw [Hm.out]; exact hkm
          have := hc k (bt ms k) (by unfold bt; rw [List.getD_eq_getElem?_getD, List.getElem?_eq_getElem hmk]; rfl)
          exact ⟨g, o, e, hg, ((below_more hb (below_more HB6.out HB.out)).cell (p := ⟨g, o + k, none⟩) hg).trans this⟩
      have h255 := h255m k
      generalize bt ms k = b at *
      have hr : ((((b % T : Nat) : Int)) != (b : Int) % (T : Int)) = false := by simp
      generalize ((b % T : Nat) : Int) = r at *
      have hjq : (np : Int) + (k : Int) < (q : Int) := by have := Hq.out; omega
      have hjn : ((np : Int) + (k : Int)).toNat = np + k := by omega
      clear hv5 hXo hYo
      go_wp2_with fail
      go_quiet (fail)
      go_wp2_with fail
      go_roundw
      case rel => exact ⟨k + 1, by omega, by go_num, draw_below HB.out _⟩
      case measure => simp [intOf]; omega
    · obtain rfl : k = m := by omega
      have d0 := blk_cell hXo 0
      have d2 := blk_cell hXo 2
      have d3 := blk_cell hXo 3
      have e0 := blk_cell hYo 0
      have e1 := blk_cell hYo 1
      have e2 := blk_cell hYo 2
      have e3 := blk_cell hYo 3
      have f4 := blk_frozen hYo 4
      simp at d0 d2 d3 e0 e1 e2 e3
      have hnq : (np : Int) ≤ (pc5 : Int) := by have := Hq.out; omega
      have hnn : np ≤ pc5 := by have := Hq.out; omega
      have hXY : w1.heap.size < w5.heap.size := hlt5
      clear hXo hYo
      go_wp2_with fail
      have hs6 := HB.out.size
      have hk7 : ∀ g, g < W6.heap.size → g ≠ w5.heap.size → (Wo.setCell ⟨w5.heap.size, 4, none⟩ (.slice (some ⟨pa5, 0, none⟩) np pc5)).heap[g]? = W6.heap[g]? := fun g h1 h2 => by
        rw [Below.heap_setCell _ _ _ _ (show g ≠ w5.heap.size from h2)]
        exact HB.out.block g h1
      have hs56 : w5.heap.size < W6.heap.size := (Array.getElem?_eq_some_iff.1 HY6.out).1
      have hs15 := HB5.out.size
      have h7 : Below w1.heap.size w1 (Wo.setCell ⟨w5.heap.size, 4, none⟩ (.slice (some ⟨pa5, 0, none⟩) np pc5)) := (HB6.out.trans (HB.out.mono HB6.out.size)).setCell (p := ⟨w5.heap.size, 4, none⟩) hs15 _
      have hk57 : ∀ g, w4.heap.size ≤ g → g < w5.heap.size → (Wo.setCell ⟨w5.heap.size, 4, none⟩ (.slice (some ⟨pa5, 0, none⟩) np pc5)).heap[g]? = w5.heap[g]? := fun g _ h2 => by
        rw [hk7 g (by omega) (by omega)]
        exact HK6.out.block g h2
      have hS5 : ScriptOwn w5 w4.heap.size (.agg #[.int .i64 pages, .int .i64 (T : Nat), .slice da5 nd dc5, .slice ca5 nc cc5, .slice (some ⟨pa5, 0, none⟩) np pc5]) ⟨pages, (T : Nat), draws, calls, picks⟩ :=
        ⟨_, _, _, rfl, by rw [Hed.out]; exact Hd5.out, Hc5.out, by
          rw [hl1, ← Hmt.out]
          show w5.ownsRow w4.heap.size 3 1 _ np ((P2.take np).map iV)
          rw [List.map_take]
          exact own_take HP5.out (by have := Hq.out; omega)⟩
      have hS := HS.out _ _ _ _ _ (HSO.out.kept (fun g _ hg => h7.block g hg)) (hS5.kept hk57)
      have HB7 := Lib.hid (below_more hb h7)
      generalize (Wo.setCell ⟨w5.heap.size, 4, none⟩ (.slice (some ⟨pa5, 0, none⟩) np pc5)) = W7 at *
      refine hS.mono ?_
      rintro e w8 ⟨rfl, hb8⟩
      have HB8 := Lib.hid (below_more HB7.out hb8)
      have HAz := awake_any w8 (HT.out.below HB8.out)
      clear hb8 hS hS5 hk57 hk7 h7
      go_wp2_with fail
      refine HAz.mono ?_
      rintro e w9 ⟨rfl, hb9⟩
      have HB9 := Lib.hid (below_more HB8.out hb9)
      clear hb9
      go_wp2
      go_ret
      exact ⟨rfl, HB9.out⟩
theorem scriptEnd_walk (a : Option Addr) (l c : Nat) (ns : List Nat) (a2 : Option Addr) (l2 c2 : Nat) (ms : List Nat) (w : World) (h : BytesArg w a l c ns) (h2 : BytesArg w a2 l2 c2 ms) (ht : Pow w) :
    Calls Tryd.prog 3 #[.slice a l c, .slice a2 l2 c2] w fun e w' => e = .returned (.bool true) ∧ Below w.heap.size w w' := by
  obtain ⟨hb, rfl, hc, hk⟩ := h
  obtain ⟨hb2, rfl, hc2, hk2⟩ := h2
  rcases Nat.lt_or_ge (endOf ns) ns.length with h0 | h0
  · exact end_some a c ns a2 c2 ms w hb hc hk hb2 hk2 ht h0
  · exact end_none a c ns _ w hb hc hk ht h0
end Go.Proofs.YtkdigojjeiidmaaDoor
