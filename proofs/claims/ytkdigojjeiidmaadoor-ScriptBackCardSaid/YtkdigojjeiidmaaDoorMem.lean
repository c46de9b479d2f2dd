/-
  How scripts lie in memory; which blocks a step leaves. No function in sight.
-/
import Derived.Test.YtkdigojjeiidmaaDoorPlain
namespace Go.Proofs.YtkdigojjeiidmaaDoor
open Go Go.RowKit Go.Shelf

/-- Of what was there only blocks of X may have turned. -/
structure Kept (X : Nat → Prop) (a w : World) : Prop where
  os : w.os = a.os
  tape : w.tape = a.tape
  output : w.output = a.output
  size : a.heap.size ≤ w.heap.size
  block : ∀ g, g < a.heap.size → ¬ X g → w.heap[g]? = a.heap[g]?
theorem Kept.refl (X : Nat → Prop) (w : World) : Kept X w w := ⟨rfl, rfl, rfl, Nat.le_refl _, fun _ _ _ => rfl⟩
theorem Kept.trans {X Y : Nat → Prop} {a b c : World} (h : Kept X a b) (k : Kept Y b c) (hY : ∀ g, g < a.heap.size → Y g → X g) : Kept X a c :=
  ⟨k.os.trans h.os, k.tape.trans h.tape, k.output.trans h.output, Nat.le_trans h.size k.size, fun g hg hx => (k.block g (Nat.lt_of_lt_of_le hg h.size) (fun hy => hx (hY g hg hy))).trans (h.block g hg hx)⟩
theorem Kept.mono {X Y : Nat → Prop} {a b : World} (h : Kept X a b) (hY : ∀ g, g < a.heap.size → X g → Y g) : Kept Y a b :=
  ⟨h.os, h.tape, h.output, h.size, fun g hg hy => h.block g hg (fun hx => hy (hY g hg hx))⟩
theorem Kept.below {X : Nat → Prop} {a b : World} (h : Kept X a b) {B : Nat} (hB : B ≤ a.heap.size) (hX : ∀ g, X g → B ≤ g) : Below B a b :=
  ⟨h.os, h.tape, h.output, h.size, fun g hg => h.block g (Nat.lt_of_lt_of_le hg hB) (fun hx => by have := hX g hx; omega)⟩
theorem Kept.of {a b : World} {B : Nat} (h : Below B a b) : Kept (fun g => B ≤ g) a b := ⟨h.os, h.tape, h.output, h.size, fun g _ hx => h.block g (by omega)⟩
theorem Kept.of0 {a b : World} {X : Nat → Prop} (h : Below a.heap.size a b) : Kept X a b := ⟨h.os, h.tape, h.output, h.size, fun g hg _ => h.block g hg⟩
theorem Kept.alloc {X : Nat → Prop} {a w : World} (h : Kept X a w) (o : Obj) : Kept X a (w.alloc o) :=
  h.trans (Kept.of0 (X := X) (new_below o)) (fun _ _ h => h)
theorem Kept.setCell {X : Nat → Prop} {a w : World} (h : Kept X a w) {p : Addr} (hp : p.block < a.heap.size → X p.block) (u : Value) : Kept X a (w.setCell p u) :=
  h.trans (Y := fun g => g = p.block) ⟨rfl, rfl, rfl, by simp [World.setCell], fun g _ hg => Below.heap_setCell _ _ _ _ hg⟩ (fun g hg e => by subst e; exact hp hg)
theorem kept_set (w : World) (p : Addr) (u : Value) : Kept (fun g => g = p.block) w (w.setCell p u) := ⟨rfl, rfl, rfl, by simp [World.setCell], fun _ _ hg => Below.heap_setCell _ _ _ _ hg⟩
theorem Kept.grown {X : Nat → Prop} {a w w' : World} {row : Option Nat} (h : Kept X a w) (hg : w.grownBy w' row) (hr : ∀ k, row = some k → k < a.heap.size → X k) : Kept X a w' :=
  h.trans (Y := fun g => row = some g) ⟨hg.os, hg.tape, hg.output, hg.size, fun g hlt hne => hg.block g hlt (fun e => hne e.symm)⟩ (fun g hlt e => hr g e hlt)
theorem Kept.drew {X : Nat → Prop} {a w : World} (h : Kept X a w) : Kept X a w.drew := ⟨h.os, h.tape, h.output, h.size, h.block⟩
theorem Kept.drewN {X : Nat → Prop} {a w : World} (h : Kept X a w) (n : Nat) : Kept X a (w.drewN n) := ⟨h.os, h.tape, h.output, h.size, h.block⟩
theorem Kept.blk {X : Nat → Prop} {a w : World} (h : Kept X a w) {g : Nat} {o : Obj} (hg : a.heap[g]? = some o) (hx : ¬ X g) : w.heap[g]? = some o :=
  (h.block g (Array.getElem?_eq_some_iff.1 hg).1 hx).trans hg
theorem Kept.cell {X : Nat → Prop} {a w : World} (h : Kept X a w) {p : Addr} {v : Value} (hc : a.cell? p = some v) (hx : ¬ X p.block) : w.cell? p = some v := by
  have hlt : p.block < a.heap.size := World.block_lt_of_cell? _ _ hc
  rw [World.cell?_of_block (h.block _ hlt hx)]
  exact hc
theorem Kept.own {X : Nat → Prop} {a w : World} (h : Kept X a w) {B e s n : Nat} {v : Value} {xs : List Value} (ho : a.ownsRow B e s v n xs) (hx : ∀ g, v.ownBlock = some g → ¬ X g) : w.ownsRow B e s v n xs :=
  own_kept ho (fun g hg => h.block g (own_lt ho hg).1 (hx g hg))

theorem draw_below {B : Nat} {a w : World} (h : Below B a w) (n : Nat) : Below B a (w.drewN n) := ⟨h.os, h.tape, h.output, h.size, h.block⟩
theorem undraw_below {w w' : World} {n : Nat} (h : Below (w.drewN n).heap.size (w.drewN n) w') : Below w.heap.size w w' := ⟨h.os, h.tape, h.output, h.size, h.block⟩
/-- Bytes that lie below block B. -/
def BytesIn (B : Nat) (w : World) (a : Option Addr) (ns : List Nat) : Prop :=
  (∀ n ∈ ns, n ≤ 255) ∧ (ns = [] ∨ ∃ g c, a = some ⟨g, c, none⟩ ∧ g < B ∧ ∀ (j n : Nat), ns[j]? = some n → w.cell? ⟨g, c + j, none⟩ = some (.int .u8 n))
theorem BytesIn.of {w : World} {a : Option Addr} {ns : List Nat} (h : BytesAt w a ns) : BytesIn w.heap.size w a ns := ⟨h.2.1, h.2.2⟩
theorem BytesIn.kept {B : Nat} {X : Nat → Prop} {w w' : World} {a : Option Addr} {ns : List Nat} (h : BytesIn B w a ns) (k : Kept X w w') (hx : ∀ g, g < B → ¬ X g) : BytesIn B w' a ns := by
  refine ⟨h.1, h.2.imp id ?_⟩
  rintro ⟨g, c, e, hg, hc⟩
  exact ⟨g, c, e, hg, fun j n hj => k.cell (hc j n hj) (hx g hg)⟩
theorem BytesIn.mono {B B' : Nat} {w : World} {a : Option Addr} {ns : List Nat} (h : BytesIn B w a ns) (hB : B ≤ B') : BytesIn B' w a ns :=
  ⟨h.1, h.2.imp id fun ⟨g, c, e, hg, hc⟩ => ⟨g, c, e, Nat.lt_of_lt_of_le hg hB, hc⟩⟩

/-- The reader: what is left of the bytes from place p on. -/
def RdAt (w : World) (R : Nat) (ns : List Nat) (p : Nat) : Prop :=
  ∃ ad cap, w.heap[R]? = some (.cells #[.slice ad (ns.length - p) cap] 54 (0, 0)) ∧ ns.length - p ≤ cap ∧ ns.length ≤ maxLen ∧ (∀ n ∈ ns, n ≤ 255) ∧
    (ns.length ≤ p ∨ ∃ g c, ad = some ⟨g, c, none⟩ ∧ g + 1 < R ∧ ∀ j, p + j < ns.length → w.cell? ⟨g, c + j, none⟩ = some (.int .u8 (bt ns (p + j) : Nat)))
theorem RdAt.lt {w : World} {R : Nat} {ns : List Nat} {p : Nat} (h : RdAt w R ns p) : R < w.heap.size := by
  obtain ⟨_, _, h1, _⟩ := h
  exact (Array.getElem?_eq_some_iff.1 h1).1
theorem RdAt.kept {X : Nat → Prop} {w w' : World} {R : Nat} {ns : List Nat} {p : Nat} (h : RdAt w R ns p) (k : Kept X w w') (hx : ∀ g, (g + 1 < R ∨ g = R) → ¬ X g) : RdAt w' R ns p := by
  obtain ⟨ad, cap, h1, h2, h3, h4, h5⟩ := h
  refine ⟨ad, cap, k.blk h1 (hx R (.inr rfl)), h2, h3, h4, h5.imp id ?_⟩
  rintro ⟨g, c, e, hg, hc⟩
  exact ⟨g, c, e, hg, fun j hj => k.cell (hc j hj) (hx g (.inl hg))⟩

/-- A row of calls of one's own: its blocks are the call's own, from base on; lists of numbers lie in blocks of their own. -/
def CallsOwn (w : World) (base : Nat) (v : Value) (cl : List CallP) : Prop :=
  ∃ xs : List Value, w.ownsRow base 36 3 v cl.length xs ∧ ∀ (j : Nat) (o : CallP), cl[j]? = some o → ∃ lv, xs[j * 3]? = some (.int .i64 o.kind) ∧ xs[j * 3 + 1]? = some (.int .i64 o.a) ∧ xs[j * 3 + 2]? = some lv ∧ w.ownsRow base 3 1 lv o.L.length (o.L.map iV)
def ListsOwn (w : World) (base : Nat) (v : Value) (ls : List (List CallP)) : Prop :=
  ∃ xs : List Value, w.ownsRow base 34 1 v ls.length xs ∧ ∀ (j : Nat) (cl : List CallP), ls[j]? = some cl → ∃ cv, xs[j]? = some cv ∧ CallsOwn w base cv cl
theorem CallsOwn.kept {w w' : World} {base : Nat} {v : Value} {cl : List CallP} (h : CallsOwn w base v cl) (hk : ∀ g, base ≤ g → g < w.heap.size → w'.heap[g]? = w.heap[g]?) : CallsOwn w' base v cl := by
  obtain ⟨xs, h1, h2⟩ := h
  refine ⟨xs, own_kept h1 (fun g hg => hk g (own_lt h1 hg).2 (own_lt h1 hg).1), fun j o hj => ?_⟩
  obtain ⟨lv, a, b, c, d⟩ := h2 j o hj
  exact ⟨lv, a, b, c, own_kept d (fun g hg => hk g (own_lt d hg).2 (own_lt d hg).1)⟩
theorem ListsOwn.kept {w w' : World} {base : Nat} {v : Value} {ls : List (List CallP)} (h : ListsOwn w base v ls) (hk : ∀ g, base ≤ g → g < w.heap.size → w'.heap[g]? = w.heap[g]?) : ListsOwn w' base v ls := by
  obtain ⟨xs, h1, h2⟩ := h
  refine ⟨xs, own_kept h1 (fun g hg => hk g (own_lt h1 hg).2 (own_lt h1 hg).1), fun j cl hj => ?_⟩
  obtain ⟨cv, a, b⟩ := h2 j cl hj
  exact ⟨cv, a, b.kept hk⟩
theorem CallsOwn.weaken {w : World} {b b' : Nat} {v : Value} {cl : List CallP} (h : CallsOwn w b v cl) (hb : b' ≤ b) : CallsOwn w b' v cl := by
  obtain ⟨xs, h1, h2⟩ := h
  refine ⟨xs, own_weaken h1 hb, fun j o hj => ?_⟩
  obtain ⟨lv, a, b, c, d⟩ := h2 j o hj
  exact ⟨lv, a, b, c, own_weaken d hb⟩
theorem ListsOwn.weaken {w : World} {b b' : Nat} {v : Value} {ls : List (List CallP)} (h : ListsOwn w b v ls) (hb : b' ≤ b) : ListsOwn w b' v ls := by
  obtain ⟨xs, h1, h2⟩ := h
  refine ⟨xs, own_weaken h1 hb, fun j cl hj => ?_⟩
  obtain ⟨cv, a, c⟩ := h2 j cl hj
  exact ⟨cv, a, c.weaken hb⟩
theorem ListsOwn.slice {w : World} {b : Nat} {v : Value} {ls : List (List CallP)} (h : ListsOwn w b v ls) : ∃ ad cap, v = .slice ad ls.length cap := by
  obtain ⟨xs, h1, _⟩ := h
  exact own_slice h1
theorem CallsOwn.slice {w : World} {b : Nat} {v : Value} {cl : List CallP} (h : CallsOwn w b v cl) : ∃ ad cap, v = .slice ad cl.length cap := by
  obtain ⟨xs, h1, _⟩ := h
  exact own_slice h1
theorem callsOwn_nil (w : World) (base : Nat) : CallsOwn w base (.slice none 0 0) [] := ⟨[], World.ownsRow_nil _ _ _ _, fun j o h => by simp at h⟩
theorem listsOwn_nil (w : World) (base : Nat) : ListsOwn w base (.slice none 0 0) [] := ⟨[], World.ownsRow_nil _ _ _ _, fun j o h => by simp at h⟩

theorem blk_grown {w w' : World} {row : Option Nat} {g : Nat} {o : Obj} (hg : w.grownBy w' row) (h : w.heap[g]? = some o) (hne : row ≠ some g) : w'.heap[g]? = some o :=
  (hg.block g (Array.getElem?_eq_some_iff.1 h).1 (fun e => hne e.symm)).trans h
/-- A row of another type is left when a row grows. -/
theorem own_grown {w w' : World} {B B' s s' n n' : Nat} {e e' : TypeId} {v v' : Value} {xs xs' : List Value} (h : w.ownsRow B e s v n xs) (h' : w.ownsRow B' e' s' v' n' xs') (hne : e ≠ e') (hg : w.grownBy w' v'.ownBlock) : w'.ownsRow B e s v n xs :=
  own_kept h (fun g hg' => hg.block g (own_lt h hg').1 (fun e => own_ne h h' hne hg' e.symm))
/-- A list of calls grows by one. -/
theorem CallsOwn.grown {w w' : World} {base n : Nat} {v v' : Value} {cl : List CallP} {o : CallP} {lv : Value} {xs : List Value} (hn : n = cl.length) (hx : w.ownsRow base 36 3 v n xs)
    (h : ∀ (j : Nat) (o : CallP), cl[j]? = some o → ∃ lv, xs[j * 3]? = some (.int .i64 o.kind) ∧ xs[j * 3 + 1]? = some (.int .i64 o.a) ∧ xs[j * 3 + 2]? = some lv ∧ w.ownsRow base 3 1 lv o.L.length (o.L.map iV))
    (hl : w.ownsRow base 3 1 lv o.L.length (o.L.map iV)) (hg : w.grownBy w' v.ownBlock) (h' : w'.ownsRow base 36 3 v' (n + 1) (xs ++ [.int .i64 o.kind, .int .i64 o.a, lv])) : CallsOwn w' base v' (cl ++ [o]) := by
  subst hn
  have hlen := hx.1
  refine ⟨_, by simpa using h', fun j o' hj => ?_⟩
  rcases Nat.lt_or_ge j cl.length with hlt | hge
  · rw [List.getElem?_append_left hlt] at hj
    obtain ⟨lv', a, b, c, d⟩ := h j o' hj
    refine ⟨lv', ?_, ?_, ?_, own_grown d hx (by decide) hg⟩
    · rw [List.getElem?_append_left (by omega)]; exact a
    · rw [List.getElem?_append_left (by omega)]; exact b
    · rw [List.getElem?_append_left (by omega)]; exact c
  · rw [List.getElem?_append_right hge] at hj
    have hj0 : j = cl.length := by have := (List.getElem?_eq_some_iff.1 hj).1; simp at this; omega
    subst hj0
    rw [Nat.sub_self] at hj
    obtain rfl := Option.some.inj hj
    refine ⟨lv, ?_, ?_, ?_, own_grown hl hx (by decide) hg⟩
    · rw [List.getElem?_append_right (by omega), hlen, Nat.sub_self]; rfl
    · rw [List.getElem?_append_right (by omega), hlen, show cl.length * 3 + 1 - cl.length * 3 = 1 by omega]; rfl
    · rw [List.getElem?_append_right (by omega), hlen, show cl.length * 3 + 2 - cl.length * 3 = 2 by omega]; rfl
/-- A list of lists grows by one. -/
theorem CallsOwn.by34 {w w' : World} {base n B : Nat} {v cv : Value} {cl : List CallP} {xs : List Value} (hx : w.ownsRow B 34 1 v n xs) (h : CallsOwn w base cv cl) (hg : w.grownBy w' v.ownBlock) : CallsOwn w' base cv cl := by
  obtain ⟨ys, h1, h2⟩ := h
  refine ⟨ys, own_grown h1 hx (by decide) hg, fun j o hj => ?_⟩
  obtain ⟨lv, a, b, c, d⟩ := h2 j o hj
  exact ⟨lv, a, b, c, own_grown d hx (by decide) hg⟩
theorem ListsOwn.grown {w w' : World} {base n : Nat} {v v' cv : Value} {ls : List (List CallP)} {cl : List CallP} {xs : List Value} (hn : n = ls.length) (hx : w.ownsRow base 34 1 v n xs)
    (h : ∀ (j : Nat) (cl : List CallP), ls[j]? = some cl → ∃ cv, xs[j]? = some cv ∧ CallsOwn w base cv cl)
    (hl : CallsOwn w base cv cl) (hg : w.grownBy w' v.ownBlock) (h' : w'.ownsRow base 34 1 v' (n + 1) (xs ++ [cv])) : ListsOwn w' base v' (ls ++ [cl]) := by
  subst hn
  have hlen := hx.1
  refine ⟨_, by simpa using h', fun j o' hj => ?_⟩
  rcases Nat.lt_or_ge j ls.length with hlt | hge
  · rw [List.getElem?_append_left hlt] at hj
    obtain ⟨lv', a, b⟩ := h j o' hj
    exact ⟨lv', by rw [List.getElem?_append_left (by omega)]; exact a, b.by34 hx hg⟩
  · rw [List.getElem?_append_right hge] at hj
    have hj0 : j = ls.length := by have := (List.getElem?_eq_some_iff.1 hj).1; simp at this; omega
    subst hj0
    rw [Nat.sub_self] at hj
    obtain rfl := Option.some.inj hj
    exact ⟨cv, by rw [List.getElem?_append_right (by omega), hlen, Nat.mul_one, Nat.sub_self]; rfl, hl.by34 hx hg⟩

def uV (x : Int) : Value := .int .u32 x
/-- A script of one's own, as a value. -/
def ScriptOwn (w : World) (base : Nat) (v : Value) (s : ScriptP) : Prop :=
  ∃ dv cv pv, v = .agg #[.int .i64 s.pages, .int .i64 s.threads, dv, cv, pv] ∧ w.ownsRow base 56 1 dv s.draws.length (s.draws.map uV) ∧ ListsOwn w base cv s.calls ∧ w.ownsRow base 3 1 pv s.picks.length (s.picks.map iV)
theorem ScriptOwn.kept {w w' : World} {base : Nat} {v : Value} {s : ScriptP} (h : ScriptOwn w base v s) (hk : ∀ g, base ≤ g → g < w.heap.size → w'.heap[g]? = w.heap[g]?) : ScriptOwn w' base v s := by
  obtain ⟨dv, cv, pv, e, h1, h2, h3⟩ := h
  exact ⟨dv, cv, pv, e, own_kept h1 (fun g hg => hk g (own_lt h1 hg).2 (own_lt h1 hg).1), h2.kept hk, own_kept h3 (fun g hg => hk g (own_lt h3 hg).2 (own_lt h3 hg).1)⟩
end Go.Proofs.YtkdigojjeiidmaaDoor
