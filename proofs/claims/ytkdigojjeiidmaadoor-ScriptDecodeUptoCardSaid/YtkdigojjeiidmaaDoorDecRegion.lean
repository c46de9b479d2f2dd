/-
  ScriptDecode's statement that draws its order and holds guarded calls.
-/
import Derived.Test.YtkdigojjeiidmaaDoorGuard
import Derived.Test.YtkdigojjeiidmaaDoorDecRight
import Derived.Test.YtkdigojjeiidmaaDoorRefDecode
import Derived.Test.YtkdigojjeiidmaaDoorScriptOwn
import Derived.Laws.BytesArg
namespace Go.Proofs.YtkdigojjeiidmaaDoor
open Go Go.RowKit Go.Shelf

/-- What memory holds in between: all that lay lies; once it is decoded, the document's script. -/
structure DMem (w0 : World) (s : ScriptP) (l : Array Bool) (a : Act) (w : World) : Prop where
  below : Below w0.heap.size w0 w
  made : Lst l 2 → ∃ b, ScriptOwn w b (Tm a 13) s
theorem DMem.start (w0 : World) (s : ScriptP) (n : Nat) (a : Act) : DMem w0 s (Array.replicate n false) a w0.drew := ⟨draw_below (Below.refl _ _) 1, fun h => absurd h (lst_none _ _)⟩
theorem DMem.step {w0 : World} {s : ScriptP} {l : Array Bool} {a a' : Act} {w w' : World} (h : DMem w0 s l a w) {i : Nat} (hun : l.getD i true = false) (hi : 2 ≠ i) (hb : Below w.heap.size w w') (ht : Tm a' 13 = Tm a 13) : DMem w0 s (l.setIfInBounds i true) a' w' := by
  refine ⟨below_more h.below hb, fun hl => ?_⟩
  rw [lst_set hun] at hl
  obtain ⟨b, hs⟩ := h.made (hl.resolve_right hi)
  rw [ht]
  exact ⟨b, hs.kept (fun g _ hg => hb.block g hg)⟩
theorem DMem.call {w0 : World} {s : ScriptP} {l : Array Bool} {a : Act} {w w' : World} (h : DMem w0 s l a w) {v : Value} {b : Nat} (hb : Below w.heap.size w w') (hsz : 13 < a.tmps.size) (hs : ScriptOwn w' b v s) : DMem w0 s (l.setIfInBounds 2 true) (a.put (some 13) v) w' :=
  ⟨below_more h.below hb, fun _ => ⟨b, by rw [tm_put hsz, if_pos rfl]; exact hs⟩⟩
theorem run_load29 {o : Oper} {a : Act} {w : World} {t X : Nat} {pg T : Int} {d1 c1 p1 : Option Addr} {d2 d3 c2 c3 p2 p3 : Nat} (hp : o.op = .load 29 (.tmp t)) (h : Tm a t = .pointer (some ⟨X, 0, none⟩)) (k0 : w.cell? ⟨X, 0, none⟩ = some (.int .i64 pg)) (k1 : w.cell? ⟨X, 1, none⟩ = some (.int .i64 T)) (k2 : w.cell? ⟨X, 2, none⟩ = some (.slice d1 d2 d3)) (k3 : w.cell? ⟨X, 3, none⟩ = some (.slice c1 c2 c3)) (k4 : w.cell? ⟨X, 4, none⟩ = some (.slice p1 p2 p3)) :
    (execOp a.eval o).run Tryd.prog w = .ok (.value (.agg #[.int .i64 pg, .int .i64 T, .slice d1 d2 d3, .slice c1 c2 c3, .slice p1 p2 p3])) w := by
  have h' := tm_get h
  simp [execOp, hp, h', go_sem, k0, k1, k2, k3, k4]
theorem run_load25 {o : Oper} {a : Act} {w : World} {t X : Nat} {pg T : Int} {d1 : Option Addr} {d2 d3 : Nat} (hp : o.op = .load 25 (.tmp t)) (h : Tm a t = .pointer (some ⟨X, 0, none⟩)) (k0 : w.cell? ⟨X, 0, none⟩ = some (.int .i64 pg)) (k1 : w.cell? ⟨X, 1, none⟩ = some (.int .i64 T)) (k2 : w.cell? ⟨X, 2, none⟩ = some (.slice d1 d2 d3)) :
    (execOp a.eval o).run Tryd.prog w = .ok (.value (.agg #[.int .i64 pg, .int .i64 T, .slice d1 d2 d3])) w := by
  have h' := tm_get h
  simp [execOp, hp, h', go_sem, k0, k1, k2]
theorem run_not {o : Oper} {a : Act} {w : World} {t : Nat} {b : Bool} (hp : o.op = .unOp .not 4 (.tmp t)) (h : Tm a t = .bool b) : (execOp a.eval o).run Tryd.prog w = .ok (.value (.bool (!b))) w := by
  have h' := tm_get h
  simp [execOp, hp, h', go_sem]
theorem run_neq0 {o : Oper} {a : Act} {w : World} {t : Nat} (hp : o.op = .binOp .neq 40 (.tmp t) (.const (.int .i64 0)) 40) (h : Tm a t = .int .i64 0) : (execOp a.eval o).run Tryd.prog w = .ok (.value (.bool false)) w := by
  have h' := tm_get h
  simp [execOp, hp, h', go_sem]
theorem run_pick {o : Oper} {a : Act} {w : World} {t u : Nat} {v : Value} (hp : o.op = .pick (.tmp t) (.const (.bool true)) (.tmp u)) (h : Tm a t = .bool false) (h2 : Tm a u = v) : (execOp a.eval o).run Tryd.prog w = .ok (.value v) w := by
  have h' := tm_get h
  have h2' := tm_get h2
  simp [execOp, hp, h', h2', go_sem]
/-- The text of bytes. -/
def strN (ns : List Nat) : ByteArray := strOfNums (ns.map Int.ofNat)
theorem run_str {o : Oper} {a : Act} {w : World} {t c : Nat} {ad : Option Addr} {ns : List Nat} (hp : o.op = .convert 22 9 (.tmp t)) (h : Tm a t = .slice ad ns.length c) (hb : BytesAt w ad ns) : (execOp a.eval o).run Tryd.prog w = .ok (.value (.string (strN ns))) w := by
  have he : a.eval (.tmp t) = .slice ad ns.length c := h
  have hr : (convert 22 9 (.slice ad ns.length c)).run Tryd.prog w = .ok (.string (strN ns)) w := by
    rcases hb.2.2 with rfl | ⟨g, x, rfl, _, hc⟩
    · cases ad with
      | none => exact run_convert_bytes_nil w 22 5 Tryd.underlying22 Tryd.underlying5 _ _ 9 Tryd.underlying9
      | some A =>
        have := run_convert_bytes_string (P := Tryd.prog) w 22 9 5 (some A) 0 c Tryd.underlying22 Tryd.underlying5 Tryd.underlying9
        rw [show ([] : List Nat).length = 0 from rfl, this]
        simp [Conv.bytesToString, loadCells, loadCellsFrom, strN, strOfNums, ByteArray.empty, ByteArray.emptyWithCapacity]
        rfl
    · refine run_convert_bytes_arg w 22 5 Tryd.underlying22 Tryd.underlying5 g x ns.length c _ (by simp) (fun i hi => ?_) 9 Tryd.underlying9
      have := hc i ns[i] (List.getElem?_eq_getElem hi)
      rw [this]
      simp [List.getD_eq_getElem?_getD, List.getElem?_eq_getElem hi]
  simp [execOp, hp, he, hr, Result.andThen]
theorem run_neqS {o : Oper} {a : Act} {w : World} {t u : Nat} {b : ByteArray} (hp : o.op = .binOp .neq 9 (.tmp t) (.tmp u) 9) (h : Tm a t = .string b) (h2 : Tm a u = .string b) : (execOp a.eval o).run Tryd.prog w = .ok (.value (.bool false)) w := by
  have h' := tm_get h
  have h2' := tm_get h2
  simp [execOp, hp, h', h2', go_sem]

def decSpec (X : Nat) (pg T : Int) (d1 : Option Addr) (d2 d3 : Nat) (c1 : Option Addr) (c2 c3 : Nat) (p1 : Option Addr) (p2 p3 : Nat) (ad : Option Addr) (cap : Nat) (wa : Option Addr) (wc : Nat) (ns : List Nat) : TSpec where
  D := fun
    | 0 => some (some 11, .load 29 (.tmp 4), [])
    | 1 => some (some 12, .move (.tmp 0), [])
    | 2 => some (some 13, .call { callee := .value (.func 13), args := #[.tmp 12], argTypes := #[22] }, [1])
    | 3 => some (some 14, .call { callee := .value (.func 11), args := #[.tmp 11, .tmp 13], argTypes := #[29, 29] }, [0, 2])
    | 4 => some (some 15, .unOp .not 4 (.tmp 14), [3])
    | 5 => some (some 16, .move (.tmp 15), [4])
    | 6 => some (some 17, .fieldAddr 29 (.tmp 4) 0, [5])
    | 7 => some (some 18, .load 25 (.tmp 17), [6, 5])
    | 8 => some (some 19, .fieldAddr 29 (.tmp 4) 1, [5])
    | 9 => some (some 20, .load 26 (.tmp 19), [8, 5])
    | 10 => some (some 21, .call { callee := .value (.func 18), args := #[.tmp 18, .tmp 20], argTypes := #[25, 26] }, [7, 9, 5])
    | 11 => some (some 22, .binOp .neq 40 (.tmp 21) (.const (.int .i64 0)) 40, [10, 5])
    | 12 => some (some 23, .pick (.tmp 16) (.const (.bool true)) (.tmp 22), [5, 11])
    | 13 => some (some 24, .move (.tmp 23), [12])
    | 14 => some (some 25, .move (.tmp 0), [13])
    | 15 => some (some 26, .convert 22 9 (.tmp 25), [14, 13])
    | 16 => some (some 27, .move (.tmp 3), [13])
    | 17 => some (some 28, .convert 22 9 (.tmp 27), [16, 13])
    | 18 => some (some 29, .binOp .neq 9 (.tmp 26) (.tmp 28) 9, [15, 17, 13])
    | 19 => some (some 30, .pick (.tmp 24) (.const (.bool true)) (.tmp 29), [13, 18])
    | _ => none
  triv := fun
    | 0 => some (11, (.agg #[.int .i64 pg, .int .i64 T, .slice d1 d2 d3, .slice c1 c2 c3, .slice p1 p2 p3]))
    | 1 => some (12, .slice ad ns.length cap)
    | 3 => some (14, .bool true)
    | 4 => some (15, .bool false)
    | 5 => some (16, .bool false)
    | 6 => some (17, .pointer (some ⟨X, 0, none⟩))
    | 7 => some (18, .agg #[.int .i64 pg, .int .i64 T, .slice d1 d2 d3])
    | 8 => some (19, .pointer (some ⟨X, 3, none⟩))
    | 9 => some (20, .slice c1 c2 c3)
    | 10 => some (21, .int .i64 0)
    | 11 => some (22, .bool false)
    | 12 => some (23, .bool false)
    | 13 => some (24, .bool false)
    | 14 => some (25, .slice ad ns.length cap)
    | 15 => some (26, .string (strN ns))
    | 16 => some (27, .slice wa ns.length wc)
    | 17 => some (28, .string (strN ns))
    | 18 => some (29, .bool false)
    | 19 => some (30, .bool false)
    | _ => none
  lo := 11
  hi := 30
  odd := []
  N := 20
def decG : Nat → Option (Nat × Nat × Bool) := fun
    | 6 => some (5, 16, false)
    | 7 => some (5, 16, false)
    | 8 => some (5, 16, false)
    | 9 => some (5, 16, false)
    | 10 => some (5, 16, false)
    | 11 => some (5, 16, false)
    | 14 => some (13, 24, false)
    | 15 => some (13, 24, false)
    | 16 => some (13, 24, false)
    | 17 => some (13, 24, false)
    | 18 => some (13, 24, false)
    | _ => none

theorem decG_ok (X : Nat) (pg T : Int) (d1 : Option Addr) (d2 d3 : Nat) (c1 : Option Addr) (c2 c3 : Nat) (p1 : Option Addr) (p2 p3 : Nat) (ad : Option Addr) (cap : Nat) (wa : Option Addr) (wc : Nat) (ns : List Nat) : ∀ i k t b d p ds, decG i = some (k, t, b) → (decSpec X pg T d1 d2 d3 c1 c2 c3 p1 p2 p3 ad cap wa wc ns).D i = some (d, p, ds) → k ∈ ds ∧ (decSpec X pg T d1 d2 d3 c1 c2 c3 p1 p2 p3 ad cap wa wc ns).triv k = some (t, .bool b) := by
  intro i' k t b d p ds hg hD
  by_cases hi : i' < 20
  · rcases (show i' = 0 ∨ i' = 1 ∨ i' = 2 ∨ i' = 3 ∨ i' = 4 ∨ i' = 5 ∨ i' = 6 ∨ i' = 7 ∨ i' = 8 ∨ i' = 9 ∨ i' = 10 ∨ i' = 11 ∨ i' = 12 ∨ i' = 13 ∨ i' = 14 ∨ i' = 15 ∨ i' = 16 ∨ i' = 17 ∨ i' = 18 ∨ i' = 19 by omega) with rfl | rfl | rfl | rfl | rfl | rfl | rfl | rfl | rfl | rfl | rfl | rfl | rfl | rfl | rfl | rfl | rfl | rfl | rfl | rfl <;> first | (cases hg; done) | (cases hg; cases hD; exact ⟨by decide, rfl⟩)
  · exfalso
    have : decG i' = none := by unfold decG; split <;> first | omega | rfl
    rw [this] at hg; cases hg

set_option maxHeartbeats 4000000 in
theorem dec_region {ops : Array Oper} {Q : Exit → Act → World → Prop} {id : Nat} {a0 : Act} {w0 : World} (X : Nat) (pg T : Int) (d1 : Option Addr) (d2 d3 : Nat) (c1 : Option Addr) (c2 c3 : Nat) (p1 : Option Addr) (p2 p3 : Nat) (ad : Option Addr) (cap : Nat) (wa : Option Addr) (wc : Nat) (ns : List Nat) (s : ScriptP) (b1 : Nat)
    (hT : (decSpec X pg T d1 d2 d3 c1 c2 c3 p1 p2 p3 ad cap wa wc ns).TextG decG ops) (hn : ops.size = 20) (hs : a0.tmps.size = 56)
    (t0 : Tm a0 0 = .slice ad ns.length cap) (t3 : Tm a0 3 = .slice wa ns.length wc) (t4 : Tm a0 4 = .pointer (some ⟨X, 0, none⟩))
    (hX : w0.heap[X]? = some (.cells #[.int .i64 pg, .int .i64 T, .slice d1 d2 d3, .slice c1 c2 c3, .slice p1 p2 p3] 29 (0, 0)))
    (hby : BytesAt w0 ad ns) (hwas : BytesAt w0 wa ns) (hroom : ns.length + 300 ≤ 4398046511104) (hdec : decodeM ns = s) (hown : ScriptOwn w0 b1 (.agg #[.int .i64 pg, .int .i64 T, .slice d1 d2 d3, .slice c1 c2 c3, .slice p1 p2 p3]) s)
    (hQ : ∀ a w, a.defers = a0.defers → a.tmps.size = 56 → (∀ t, (t < 11 ∨ 30 < t) → Tm a t = Tm a0 t) → Tm a 30 = .bool false → Below w0.heap.size w0 w → Q .normal a w) :
    (Code.region id ops true).wp Tryd.prog Q a0 w0 := by
  have hpg : s.pages = pg ∧ s.threads = T := by
    obtain ⟨dv, cv, pv, e, _⟩ := hown
    injection e with e
    have e0 := congrArg (·[0]?) e
    have e1 := congrArg (·[1]?) e
    simp at e0 e1
    exact ⟨e0.symm, e1.symm⟩
  have hlists : ListsOwn w0 b1 (.slice c1 c2 c3) s.calls := by
    obtain ⟨dv, cv, pv, e, _, h, _⟩ := hown
    injection e with e
    have e3 := congrArg (·[3]?) e
    simp at e3
    rw [e3]; exact h
  have hright : rightM pg T s.calls = 0 := by rw [← hpg.1, ← hpg.2, ← hdec]; exact decode_right ns
  have hlen : ListsLen s.calls := by
    rw [← hdec]
    refine ⟨by show (listsM ns _).length ≤ _; rw [listsM_len]; have := threads_ge ns; omega, fun cl hcl => ?_⟩
    have := lists_small ns _ cl hcl
    exact ⟨by omega, fun o ho => by have := this.2 o ho; omega⟩
  refine table_region_g (decSpec X pg T d1 d2 d3 c1 c2 c3 p1 p2 p3 ad cap wa wc ns) decG (fun l a w => DMem w0 s l a w) (by kernel_rfl) hT (decG_ok X pg T d1 d2 d3 c1 c2 c3 p1 p2 p3 ad cap wa wc ns) hn (DMem.start _ _ _ _) ?_ ?_
  · intro l a w h hall hM
    refine hQ a w h.defers (h.size.trans hs) (fun t ht => h.out t ?_) (h.tri 19 30 _ rfl (hall 19 (by show 19 < 20; decide))) hM.below
    rintro (⟨x, y⟩ | x)
    · have x : 11 ≤ t := x
      have y : t ≤ 30 := y
      omega
    · cases x
  intro l a w i' o d p' ds h hM hi' hD hd hp hpre hun
  have hi' : i' < 20 := hi'
  clear hT hQ hn
  have C : ∀ j, w.cell? ⟨X, j, none⟩ = (#[.int .i64 pg, .int .i64 T, .slice d1 d2 d3, .slice c1 c2 c3, .slice p1 p2 p3] : Array Value)[j]? := fun j => blk_cell ((hM.below.block _ (Array.getElem?_eq_some_iff.1 hX).1).trans hX) j
  rcases (show i' = 0 ∨ i' = 1 ∨ i' = 2 ∨ i' = 3 ∨ i' = 4 ∨ i' = 5 ∨ i' = 6 ∨ i' = 7 ∨ i' = 8 ∨ i' = 9 ∨ i' = 10 ∨ i' = 11 ∨ i' = 12 ∨ i' = 13 ∨ i' = 14 ∨ i' = 15 ∨ i' = 16 ∨ i' = 17 ∨ i' = 18 ∨ i' = 19 by omega) with rfl | rfl | rfl | rfl | rfl | rfl | rfl | rfl | rfl | rfl | rfl | rfl | rfl | rfl | rfl | rfl | rfl | rfl | rfl | rfl
  · cases hD
    exact op_of hd (run_load29 hp ((h.out 4 (show ¬ ((11 ≤ 4 ∧ 4 ≤ 30) ∨ 4 ∈ ([] : List Nat)) by decide)).trans t4) (C 0) (C 1) (C 2) (C 3) (C 4)) ⟨h.plain hun rfl hpre rfl (fun k c' hk => by simp only [decSpec] at hk; split at hk <;> first | rfl | (cases hk; done)) (.inl ⟨nle rfl, nle rfl⟩) (by omega), hM.step hun (nne rfl) (Below.refl _ _) (put_other (by rw [h.size]; omega) (nne rfl))⟩
  · cases hD
    exact op_of hd (run_move hp ((h.out 0 (show ¬ ((11 ≤ 0 ∧ 0 ≤ 30) ∨ 0 ∈ ([] : List Nat)) by decide)).trans t0)) ⟨h.plain hun rfl hpre rfl (fun k c' hk => by simp only [decSpec] at hk; split at hk <;> first | rfl | (cases hk; done)) (.inl ⟨nle rfl, nle rfl⟩) (by omega), hM.step hun (nne rfl) (Below.refl _ _) (put_other (by rw [h.size]; omega) (nne rfl))⟩
  · cases hD
    have h' := tm_get (h.tri 1 12 _ rfl (hpre 1 (by simp)))
    unfold Oper.wp
    have hr' : (execOp a.eval o).run Tryd.prog w = .ok (.enter 13 #[.slice ad ns.length cap]) w := by
      simp [execOp, hp, h', go_sem]
    rw [hr', Oper.upon_enter]
    refine (refdecode_any ad cap ns w (hby.kept (CellsKept.of hM.below)) hroom).mono ?_
    rintro e w' ⟨⟨v, rfl, hv⟩, hb⟩
    rw [hdec] at hv
    rw [hd]
    exact ⟨h.some hun rfl hpre rfl (fun k c' hk => by simp only [decSpec] at hk; split at hk <;> (cases hk; done)) (.inl ⟨nle rfl, nle rfl⟩) (by omega), hM.call hb (by rw [h.size]; omega) hv⟩
  · cases hD
    have h' := tm_get (h.tri 0 11 _ rfl (hpre 0 (by simp)))
    obtain ⟨v, hv⟩ : ∃ v, Tm a 13 = v := ⟨_, rfl⟩
    have h2' := tm_get hv
    obtain ⟨b2, hs2⟩ := hM.made (hpre 2 (by simp))
    rw [hv] at hs2
    unfold Oper.wp
    have hr' : (execOp a.eval o).run Tryd.prog w = .ok (.enter 11 #[(.agg #[.int .i64 pg, .int .i64 T, .slice d1 d2 d3, .slice c1 c2 c3, .slice p1 p2 p3]), v]) w := by
      simp [execOp, hp, h', h2', go_sem]
    rw [hr', Oper.upon_enter]
    have hk := hown.kept (fun g _ hg => hM.below.block g hg)
    rw [← hdec] at hk hs2
    refine (own_same ns _ _ _ _ w hk hs2 hroom).mono ?_
    rintro e w' ⟨rfl, hb⟩
    show _ ∧ _
    rw [hd]
    exact ⟨h.plain hun rfl hpre rfl (fun k c' hk => by simp only [decSpec] at hk; split at hk <;> first | rfl | (cases hk; done)) (.inl ⟨nle rfl, nle rfl⟩) (by omega), hM.step hun (nne rfl) hb (put_other (by rw [h.size]; omega) (nne rfl))⟩
  · cases hD
    exact op_of hd (run_not hp (h.tri 3 14 _ rfl (hpre 3 (by simp)))) ⟨h.plain hun rfl hpre rfl (fun k c' hk => by simp only [decSpec] at hk; split at hk <;> first | rfl | (cases hk; done)) (.inl ⟨nle rfl, nle rfl⟩) (by omega), hM.step hun (nne rfl) (Below.refl _ _) (put_other (by rw [h.size]; omega) (nne rfl))⟩
  · cases hD
    exact op_of hd (run_move hp (h.tri 4 15 _ rfl (hpre 4 (by simp)))) ⟨h.plain hun rfl hpre rfl (fun k c' hk => by simp only [decSpec] at hk; split at hk <;> first | rfl | (cases hk; done)) (.inl ⟨nle rfl, nle rfl⟩) (by omega), hM.step hun (nne rfl) (Below.refl _ _) (put_other (by rw [h.size]; omega) (nne rfl))⟩
  · cases hD
    exact op_of hd (run_field hp ((h.out 4 (show ¬ ((11 ≤ 4 ∧ 4 ≤ 30) ∨ 4 ∈ ([] : List Nat)) by decide)).trans t4) (.inl ⟨rfl, .inl ⟨rfl, rfl⟩⟩)) ⟨h.plain hun rfl hpre rfl (fun k c' hk => by simp only [decSpec] at hk; split at hk <;> first | rfl | (cases hk; done)) (.inl ⟨nle rfl, nle rfl⟩) (by omega), hM.step hun (nne rfl) (Below.refl _ _) (put_other (by rw [h.size]; omega) (nne rfl))⟩
  · cases hD
    exact op_of hd (run_load25 hp (h.tri 6 17 _ rfl (hpre 6 (by simp))) (C 0) (C 1) (C 2)) ⟨h.plain hun rfl hpre rfl (fun k c' hk => by simp only [decSpec] at hk; split at hk <;> first | rfl | (cases hk; done)) (.inl ⟨nle rfl, nle rfl⟩) (by omega), hM.step hun (nne rfl) (Below.refl _ _) (put_other (by rw [h.size]; omega) (nne rfl))⟩
  · cases hD
    exact op_of hd (run_field hp ((h.out 4 (show ¬ ((11 ≤ 4 ∧ 4 ≤ 30) ∨ 4 ∈ ([] : List Nat)) by decide)).trans t4) (.inl ⟨rfl, .inr (.inl ⟨rfl, rfl⟩)⟩)) ⟨h.plain hun rfl hpre rfl (fun k c' hk => by simp only [decSpec] at hk; split at hk <;> first | rfl | (cases hk; done)) (.inl ⟨nle rfl, nle rfl⟩) (by omega), hM.step hun (nne rfl) (Below.refl _ _) (put_other (by rw [h.size]; omega) (nne rfl))⟩
  · cases hD
    exact op_of hd (run_loadS (.inr (.inr rfl)) hp (h.tri 8 19 _ rfl (hpre 8 (by simp))) (C 3)) ⟨h.plain hun rfl hpre rfl (fun k c' hk => by simp only [decSpec] at hk; split at hk <;> first | rfl | (cases hk; done)) (.inl ⟨nle rfl, nle rfl⟩) (by omega), hM.step hun (nne rfl) (Below.refl _ _) (put_other (by rw [h.size]; omega) (nne rfl))⟩
  · cases hD
    have h' := tm_get (h.tri 7 18 _ rfl (hpre 7 (by simp)))
    have h2' := tm_get (h.tri 9 20 _ rfl (hpre 9 (by simp)))
    unfold Oper.wp
    have hr' : (execOp a.eval o).run Tryd.prog w = .ok (.enter 18 #[.agg #[.int .i64 pg, .int .i64 T, .slice d1 d2 d3], .slice c1 c2 c3]) w := by
      simp [execOp, hp, h', h2', go_sem]
    rw [hr', Oper.upon_enter]
    have hC := right_any pg T (.slice d1 d2 d3) s.calls (.slice c1 c2 c3) w (hlists.at.kept (CellsKept.of hM.below)) hlen
    rw [hright] at hC
    refine hC.mono ?_
    rintro e w' ⟨rfl, hb⟩
    show _ ∧ _
    rw [hd]
    exact ⟨h.plain hun rfl hpre rfl (fun k c' hk => by simp only [decSpec] at hk; split at hk <;> first | rfl | (cases hk; done)) (.inl ⟨nle rfl, nle rfl⟩) (by omega), hM.step hun (nne rfl) hb (put_other (by rw [h.size]; omega) (nne rfl))⟩
  · cases hD
    exact op_of hd (run_neq0 hp (h.tri 10 21 _ rfl (hpre 10 (by simp)))) ⟨h.plain hun rfl hpre rfl (fun k c' hk => by simp only [decSpec] at hk; split at hk <;> first | rfl | (cases hk; done)) (.inl ⟨nle rfl, nle rfl⟩) (by omega), hM.step hun (nne rfl) (Below.refl _ _) (put_other (by rw [h.size]; omega) (nne rfl))⟩
  · cases hD
    exact op_of hd (run_pick hp (h.tri 5 16 _ rfl (hpre 5 (by simp))) (h.tri 11 22 _ rfl (hpre 11 (by simp)))) ⟨h.plain hun rfl hpre rfl (fun k c' hk => by simp only [decSpec] at hk; split at hk <;> first | rfl | (cases hk; done)) (.inl ⟨nle rfl, nle rfl⟩) (by omega), hM.step hun (nne rfl) (Below.refl _ _) (put_other (by rw [h.size]; omega) (nne rfl))⟩
  · cases hD
    exact op_of hd (run_move hp (h.tri 12 23 _ rfl (hpre 12 (by simp)))) ⟨h.plain hun rfl hpre rfl (fun k c' hk => by simp only [decSpec] at hk; split at hk <;> first | rfl | (cases hk; done)) (.inl ⟨nle rfl, nle rfl⟩) (by omega), hM.step hun (nne rfl) (Below.refl _ _) (put_other (by rw [h.size]; omega) (nne rfl))⟩
  · cases hD
    exact op_of hd (run_move hp ((h.out 0 (show ¬ ((11 ≤ 0 ∧ 0 ≤ 30) ∨ 0 ∈ ([] : List Nat)) by decide)).trans t0)) ⟨h.plain hun rfl hpre rfl (fun k c' hk => by simp only [decSpec] at hk; split at hk <;> first | rfl | (cases hk; done)) (.inl ⟨nle rfl, nle rfl⟩) (by omega), hM.step hun (nne rfl) (Below.refl _ _) (put_other (by rw [h.size]; omega) (nne rfl))⟩
  · cases hD
    exact op_of hd (run_str hp (h.tri 14 25 _ rfl (hpre 14 (by simp))) (hby.kept (CellsKept.of hM.below))) ⟨h.plain hun rfl hpre rfl (fun k c' hk => by simp only [decSpec] at hk; split at hk <;> first | rfl | (cases hk; done)) (.inl ⟨nle rfl, nle rfl⟩) (by omega), hM.step hun (nne rfl) (Below.refl _ _) (put_other (by rw [h.size]; omega) (nne rfl))⟩
  · cases hD
    exact op_of hd (run_move hp ((h.out 3 (show ¬ ((11 ≤ 3 ∧ 3 ≤ 30) ∨ 3 ∈ ([] : List Nat)) by decide)).trans t3)) ⟨h.plain hun rfl hpre rfl (fun k c' hk => by simp only [decSpec] at hk; split at hk <;> first | rfl | (cases hk; done)) (.inl ⟨nle rfl, nle rfl⟩) (by omega), hM.step hun (nne rfl) (Below.refl _ _) (put_other (by rw [h.size]; omega) (nne rfl))⟩
  · cases hD
    exact op_of hd (run_str hp (h.tri 16 27 _ rfl (hpre 16 (by simp))) (hwas.kept (CellsKept.of hM.below))) ⟨h.plain hun rfl hpre rfl (fun k c' hk => by simp only [decSpec] at hk; split at hk <;> first | rfl | (cases hk; done)) (.inl ⟨nle rfl, nle rfl⟩) (by omega), hM.step hun (nne rfl) (Below.refl _ _) (put_other (by rw [h.size]; omega) (nne rfl))⟩
  · cases hD
    exact op_of hd (run_neqS hp (h.tri 15 26 _ rfl (hpre 15 (by simp))) (h.tri 17 28 _ rfl (hpre 17 (by simp)))) ⟨h.plain hun rfl hpre rfl (fun k c' hk => by simp only [decSpec] at hk; split at hk <;> first | rfl | (cases hk; done)) (.inl ⟨nle rfl, nle rfl⟩) (by omega), hM.step hun (nne rfl) (Below.refl _ _) (put_other (by rw [h.size]; omega) (nne rfl))⟩
  · cases hD
    exact op_of hd (run_pick hp (h.tri 13 24 _ rfl (hpre 13 (by simp))) (h.tri 18 29 _ rfl (hpre 18 (by simp)))) ⟨h.plain hun rfl hpre rfl (fun k c' hk => by simp only [decSpec] at hk; split at hk <;> first | rfl | (cases hk; done)) (.inl ⟨nle rfl, nle rfl⟩) (by omega), hM.step hun (nne rfl) (Below.refl _ _) (put_other (by rw [h.size]; omega) (nne rfl))⟩
end Go.Proofs.YtkdigojjeiidmaaDoor
