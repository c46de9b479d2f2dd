/-
  Bytes appended to a row of one's own; a row of bytes of one's own, read.
-/
import Derived.Test.YtkdigojjeiidmaaDoorZeros
import Derived.Test.YtkdigojjeiidmaaDoorMem
namespace Go.Proofs.YtkdigojjeiidmaaDoor
open Go Go.RowKit Go.Shelf

def bV (n : Nat) : Value := .int .u8 (n : Int)
theorem info5 : (Tryd.prog.info? 5).map (fun i => (i.zero, i.size, i.bytes)) = some (some (.int .u8 0), 1, 1) := by kernel_rfl
theorem run_append_bytes (w : World) (base : Nat) (ty : TypeId) (v : Value) (n : Nat) (xs : List Value) (hown : w.ownsRow base 5 1 v n xs)
    (ad : Option Addr) (m c : Nat) (ns : List Nat) (hb : BytesAt w ad ns) (hm : ns.length = m) (hroom : n + m ≤ 4398046511104) (hbase : base ≤ w.heap.size) :
    ∃ v' w', (Builtin.append_ #[22, 22] ty #[v, .slice ad m c]).run Tryd.prog w = .ok v' w' ∧ w'.ownsRow base 5 1 v' (n + m) (xs ++ ns.map bV) ∧ w.grownBy w' v.ownBlock := by
  obtain ⟨i, hi, hz, hs, hy⟩ := info_parts' info5
  cases ad with
  | some a =>
    obtain ⟨v', w', h1, h2, h3, _⟩ := run_append_own (P := Tryd.prog) w base 22 ty 5 i (.int .u8 0) 1 1 Tryd.underlying22 hi hz hs hy rfl (by decide) v n xs hown a m c (ns.map bV) (by simp [hm])
      (by
        intro j u hu
        rcases hb.2.2 with rfl | ⟨g, o, e, _, hc⟩
        · simp at hu
        · obtain rfl := Option.some.inj e
          obtain ⟨x, hx, rfl⟩ : ∃ x, ns[j]? = some x ∧ bV x = u := by simpa using hu
          have hadd : (⟨g, o, none⟩ : Addr).add j = ⟨g, o + j, none⟩ := by unfold Addr.add; split <;> simp_all
          rw [hadd]
          exact hc j x hx)
      (by intro u hu; obtain ⟨x, _, rfl⟩ := List.mem_map.1 hu; rfl) (by unfold maxLen; omega) (by omega) hbase
    exact ⟨v', w', h1, h2, h3⟩
  | none =>
    obtain rfl : ns = [] := by
      rcases hb.2.2 with h | ⟨_, _, e, _⟩
      · exact h
      · cases e
    simp at hm
    subst hm
    rcases hown.2 with ⟨rfl, rfl⟩ | ⟨g, cap, cur, rfl, hbg, hg, hnc, hcm, hcs, htake⟩
    · refine ⟨.slice none 0 0, w, ?_, by simpa using hown, ⟨rfl, rfl, rfl, Nat.le_refl _, fun _ _ _ => rfl⟩⟩
      simp [Builtin.append_, run_underlying Tryd.underlying22, sizeOf, typeInfo, hi, Builtin.lenOf, Builtin.firstCells]
    · refine ⟨.slice (some ⟨g, 0, none⟩) n cap, w, ?_, by simpa using hown, ⟨rfl, rfl, rfl, Nat.le_refl _, fun _ _ _ => rfl⟩⟩
      simp [Builtin.append_, run_underlying Tryd.underlying22, sizeOf, typeInfo, hi, Builtin.lenOf, Builtin.firstCells, hnc, storeCells]
theorem wpList_append_bytes {w : World} {ops : Array Oper} {rest : List Oper} {o : Oper} {a : Act} {Q : Exit → Act → World → Prop} (hgd : o.guard = none) (s x : Operand)
    (ho : o.op = .call { callee := .builtin .append, args := #[s, x], argTypes := #[22, 22] })
    (base : Nat) (v : Value) (n : Nat) (xs : List Value) (hs : a.eval s = v) (hown : w.ownsRow base 5 1 v n xs) (ad : Option Addr) (m c : Nat) (ns : List Nat) (hx : a.eval x = .slice ad m c) (hb : BytesAt w ad ns) (hm : ns.length = m) (hroom : n + m ≤ 4398046511104) (hbase : base ≤ w.heap.size)
    (h : ∀ v' w', w'.ownsRow base 5 1 v' (n + m) (xs ++ ns.map bV) → w.grownBy w' v.ownBlock → wpList Tryd.prog ops Q rest (a.put o.dst v') w') : wpList Tryd.prog ops Q (o :: rest) a w :=
  wpList_plain hgd fun K hK => by
    obtain ⟨v', w', hr, h2, h3⟩ := run_append_bytes w base o.type v n xs hown ad m c ns hb hm hroom hbase
    unfold Oper.wp execOp
    simp only [ho, resolve, invoke, builtin, Sem.run_bind, Sem.run_pure, Result.andThen_ok, List.map_toArray, List.map_cons, List.map_nil, hs, hx, hr]
    exact hK _ _ (h v' w' h2 h3)
theorem wpList_append_noughts {w : World} {ops : Array Oper} {rest : List Oper} {o : Oper} {a : Act} {Q : Exit → Act → World → Prop} (hgd : o.guard = none) (s x : Operand)
    (ho : o.op = .call { callee := .builtin .append, args := #[s, x], argTypes := #[22, 3] })
    (base : Nat) (v : Value) (n : Nat) (xs : List Value) (hs : a.eval s = v) (hown : w.ownsRow base 5 1 v n xs) (m : Nat) (hx : a.eval x = .int .i64 m) (hm : 0 < m) (hroom : n + m ≤ 4398046511104) (hbase : base ≤ w.heap.size)
    (h : ∀ v' w', w'.ownsRow base 5 1 v' (n + m) (xs ++ List.replicate m (.int .u8 0)) → w.grownBy w' v.ownBlock → wpList Tryd.prog ops Q rest (a.put o.dst v') w') : wpList Tryd.prog ops Q (o :: rest) a w := by
  obtain ⟨i, hi, hz, hs', hy⟩ := info_parts' info5
  exact wpList_append_zeros hgd s x 22 3 ho base 5 i (.int .u8 0) Tryd.underlying22 Tryd.underlying3 hi hz hs' hy rfl rfl v n xs hs hown m hx hm hroom hbase h
/-- A row of bytes of one's own, as an argument. -/
theorem bytes_of_owns {w : World} {B n : Nat} {v : Value} {ns : List Nat} (h : w.ownsRow B 5 1 v n (ns.map bV)) (h255 : ∀ x ∈ ns, x ≤ 255) : ∃ ad cap, v = .slice ad n cap ∧ BytesAt w ad ns ∧ ns.length = n ∧ n ≤ cap := by
  have hl := h.1
  rw [List.length_map, Nat.mul_one] at hl
  rcases h.2 with ⟨rfl, rfl⟩ | ⟨g, cap, cur, rfl, _, hh, hnc, hcm, _, htk⟩
  · obtain rfl := List.eq_nil_of_length_eq_zero hl
    exact ⟨none, 0, rfl, ⟨Nat.zero_le _, fun _ h => by simp at h, .inl rfl⟩, rfl, Nat.le_refl _⟩
  · refine ⟨_, cap, rfl, ⟨by omega, h255, .inr ⟨g, 0, rfl, (Array.getElem?_eq_some_iff.1 hh).1, fun j x hx => ?_⟩⟩, hl, hnc⟩
    have hj := (List.getElem?_eq_some_iff.1 hx).1
    rw [Nat.zero_add, World.ownsRow.cellAt h j (by omega), List.getElem?_map, hx]
    rfl
theorem noughts_map (k : Nat) : List.replicate k (Value.int .u8 0) = (List.replicate k 0).map bV := by simp [bV]
end Go.Proofs.YtkdigojjeiidmaaDoor
