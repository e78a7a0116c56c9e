/- Small laws on worlds, blocks and bits, for every program. -/
import Derived.WalkKit
import Derived.Handy
import Derived.Deep.Draws
import Derived.Deep.QuietTactic
import Derived.Laws.AppendOwnNone
set_option linter.unusedVariables false
set_option linter.unusedSimpArgs false
namespace Go.Proofs.Ytmhdckpmkgkglaa
open Go.RowKit

theorem blk_lt {w : World} {g : Nat} {o : Obj} (h : w.heap[g]? = some o) : g < w.heap.size := (Array.getElem?_eq_some_iff.1 h).1
theorem blk_cell {w : World} {g : Nat} {t : TypeId} {cs : Array Value} {fr : Nat × Nat} (h : w.heap[g]? = some (.cells cs t fr)) (i : Nat) : w.cell? ⟨g, i, none⟩ = cs[i]? := cell_of_row w g i cs t fr h
theorem blk_frozen {w : World} {g : Nat} {t : TypeId} {cs : Array Value} (h : w.heap[g]? = some (.cells cs t (0, 0))) (i : Nat) : w.frozen? ⟨g, i, none⟩ = false := by simp [World.frozen?, h]
theorem blk_set {w : World} {g : Nat} {t : TypeId} {cs : Array Value} {fr : Nat × Nat} (h : w.heap[g]? = some (.cells cs t fr)) (i : Nat) (u : Value) : (w.setCell ⟨g, i, none⟩ u).heap[g]? = some (.cells (cs.setIfInBounds i u) t fr) := by
  simp only [World.setCell, Array.getElem?_modify, ↓reduceIte, h, Option.map_some]
  simp
theorem blk_far {w : World} {g : Nat} {o : Obj} (h : w.heap[g]? = some o) {p : Addr} (hp : g ≠ p.block) (u : Value) : (w.setCell p u).heap[g]? = some o := (Below.heap_setCell w p u g hp).trans h
theorem blk_alloc {w : World} {g : Nat} {o : Obj} (h : w.heap[g]? = some o) (o' : Obj) : (w.alloc o').heap[g]? = some o := (Below.heap_alloc w o' g (blk_lt h)).trans h
theorem blk_new (w : World) (o : Obj) : (w.alloc o).heap[w.heap.size]? = some o := heap_alloc_new w o
theorem blk_drew {w : World} {g : Nat} {o : Obj} (h : w.heap[g]? = some o) : w.drew.heap[g]? = some o := h
theorem blk_grown {w w1 : World} {g : Nat} {o : Obj} {row : Option Nat} (h : w.heap[g]? = some o) (hg : w.grownBy w1 row) (hne : some g ≠ row) : w1.heap[g]? = some o := (hg.block g (blk_lt h) hne).trans h
theorem blk_below {w w1 : World} {g : Nat} {o : Obj} {B : Nat} (h : w.heap[g]? = some o) (hb : Below B w w1) (hlt : g < B) : w1.heap[g]? = some o := (hb.block g hlt).trans h
theorem blk_below' {w w1 : World} {g : Nat} {o : Obj} (h : w.heap[g]? = some o) (hb : Below w.heap.size w w1) : w1.heap[g]? = some o := blk_below h hb (blk_lt h)

/-- The cells of a block of five, laid open for the walk. -/
theorem blk5 {w : World} {g t : Nat} {c0 c1 c2 c3 c4 : Value} (h : w.heap[g]? = some (.cells #[c0, c1, c2, c3, c4] t (0, 0))) :
    w.cell? ⟨g, 0, none⟩ = some c0 ∧ w.cell? ⟨g, 1, none⟩ = some c1 ∧ w.cell? ⟨g, 2, none⟩ = some c2 ∧ w.cell? ⟨g, 3, none⟩ = some c3 ∧ w.cell? ⟨g, 4, none⟩ = some c4 :=
  ⟨blk_cell h 0, blk_cell h 1, blk_cell h 2, blk_cell h 3, blk_cell h 4⟩
theorem frz5 {w : World} {g t : Nat} {cs : Array Value} (h : w.heap[g]? = some (.cells cs t (0, 0))) :
    w.frozen? ⟨g, 0, none⟩ = false ∧ w.frozen? ⟨g, 1, none⟩ = false ∧ w.frozen? ⟨g, 2, none⟩ = false ∧ w.frozen? ⟨g, 3, none⟩ = false ∧ w.frozen? ⟨g, 4, none⟩ = false :=
  ⟨blk_frozen h 0, blk_frozen h 1, blk_frozen h 2, blk_frozen h 3, blk_frozen h 4⟩

theorem blk6 {w : World} {g t : Nat} {c0 c1 c2 c3 c4 c5 : Value} (h : w.heap[g]? = some (.cells #[c0, c1, c2, c3, c4, c5] t (0, 0))) :
    w.cell? ⟨g, 0, none⟩ = some c0 ∧ w.cell? ⟨g, 1, none⟩ = some c1 ∧ w.cell? ⟨g, 2, none⟩ = some c2 ∧ w.cell? ⟨g, 3, none⟩ = some c3 ∧ w.cell? ⟨g, 4, none⟩ = some c4 ∧ w.cell? ⟨g, 5, none⟩ = some c5 :=
  ⟨blk_cell h 0, blk_cell h 1, blk_cell h 2, blk_cell h 3, blk_cell h 4, blk_cell h 5⟩
theorem frz6 {w : World} {g t : Nat} {cs : Array Value} (h : w.heap[g]? = some (.cells cs t (0, 0))) :
    w.frozen? ⟨g, 0, none⟩ = false ∧ w.frozen? ⟨g, 1, none⟩ = false ∧ w.frozen? ⟨g, 2, none⟩ = false ∧ w.frozen? ⟨g, 3, none⟩ = false ∧ w.frozen? ⟨g, 4, none⟩ = false ∧ w.frozen? ⟨g, 5, none⟩ = false :=
  ⟨blk_frozen h 0, blk_frozen h 1, blk_frozen h 2, blk_frozen h 3, blk_frozen h 4, blk_frozen h 5⟩

theorem grown_refl (w : World) (r : Option Nat) : w.grownBy w r := ⟨rfl, rfl, rfl, Nat.le_refl _, fun _ _ _ => rfl⟩
theorem grown_trans {w w1 w2 : World} {r : Option Nat} (h : w.grownBy w1 r) (k : w1.grownBy w2 r) : w.grownBy w2 r :=
  ⟨k.os.trans h.os, k.tape.trans h.tape, k.output.trans h.output, Nat.le_trans h.size k.size, fun i hi hr => (k.block i (Nat.lt_of_lt_of_le hi h.size) hr).trans (h.block i hi hr)⟩
theorem grown_set {w w1 : World} {g : Nat} (h : w.grownBy w1 (some g)) (i : Nat) (u : Value) : w.grownBy (w1.setCell ⟨g, i, none⟩ u) (some g) :=
  grown_trans h ⟨rfl, rfl, rfl, by simp, fun k hk hr => Below.heap_setCell _ _ _ _ (fun e => hr (by simp [e]))⟩
theorem grown_drew {w w1 : World} {r : Option Nat} (h : w.grownBy w1 r) : w.grownBy w1.drew r := ⟨h.os, h.tape, h.output, h.size, h.block⟩
theorem grown_drewN {w w1 : World} {r : Option Nat} (h : w.grownBy w1 r) (n : Nat) : w.grownBy (w1.drewN n) r := ⟨h.os, h.tape, h.output, h.size, h.block⟩
theorem grown_alloc {w w1 : World} {r : Option Nat} (h : w.grownBy w1 r) (o : Obj) : w.grownBy (w1.alloc o) r := grown_trans h (World.grownBy_alloc w1 o r)
theorem grown_below {w w1 : World} (h : Below w.heap.size w w1) (r : Option Nat) : w.grownBy w1 r := ⟨h.os, h.tape, h.output, h.size, fun i hi _ => h.block i hi⟩
theorem below_grown {w w1 : World} {B : Nat} {r : Option Nat} (h : w.grownBy w1 r) (hB : B ≤ w.heap.size) (hr : ∀ k, r = some k → B ≤ k) : Below B w w1 :=
  ⟨h.os, h.tape, h.output, h.size, fun k hk => h.block k (by omega) (fun e => by have := hr k e.symm; omega)⟩
theorem below_drewN {B : Nat} {w W : World} (h : Below B w W) (n : Nat) : Below B w (W.drewN n) := ⟨h.os, h.tape, h.output, h.size, h.block⟩
theorem grown_set_far {w w1 : World} {r : Option Nat} (h : w.grownBy w1 r) {p : Addr} (hp : w.heap.size ≤ p.block) (u : Value) : w.grownBy (w1.setCell p u) r :=
  ⟨h.os, h.tape, h.output, by simpa using h.size, fun k hk hr => (Below.heap_setCell _ _ _ _ (by omega)).trans (h.block k hk hr)⟩
theorem grown_then {w w1 w2 : World} {r : Option Nat} (h : w.grownBy w1 r) (k : Below w1.heap.size w1 w2) : w.grownBy w2 r := grown_trans h (grown_below k r)
theorem grown_then_row {w w1 w2 : World} {r r2 : Option Nat} (h : w.grownBy w1 r) (k : w1.grownBy w2 r2) (hr : ∀ b, r2 = some b → r = some b ∨ w.heap.size ≤ b) : w.grownBy w2 r :=
  ⟨k.os.trans h.os, k.tape.trans h.tape, k.output.trans h.output, Nat.le_trans h.size k.size, fun i hi hne => (k.block i (Nat.lt_of_lt_of_le hi h.size) (fun e => by
    rcases hr i e.symm with h1 | h1
    · exact hne h1.symm
    · omega)).trans (h.block i hi hne)⟩

theorem bcell {W w1 : World} (hb : Below W.heap.size W w1) : (∀ b o, b < W.heap.size → w1.cell? ⟨b, o, none⟩ = W.cell? ⟨b, o, none⟩) ∧ (∀ b o, b < W.heap.size → w1.frozen? ⟨b, o, none⟩ = W.frozen? ⟨b, o, none⟩) :=
  ⟨fun b o h => hb.cell (p := ⟨b, o, none⟩) h, fun b o h => hb.frozen (p := ⟨b, o, none⟩) h⟩
theorem gcell {W w1 : World} {g : Nat} (hb : W.grownBy w1 (some g)) : (∀ b o, b < W.heap.size → b ≠ g → w1.cell? ⟨b, o, none⟩ = W.cell? ⟨b, o, none⟩) ∧ (∀ b o, b < W.heap.size → b ≠ g → w1.frozen? ⟨b, o, none⟩ = W.frozen? ⟨b, o, none⟩) :=
  ⟨fun b o h hne => World.cell?_of_block (hb.block b h (by simpa using hne)), fun b o h hne => World.frozen?_of_block (hb.block b h (by simpa using hne))⟩
theorem blk_drewN {w : World} {g : Nat} {o : Obj} (h : w.heap[g]? = some o) (n : Nat) : (w.drewN n).heap[g]? = some o := h
theorem blk_new' (w : World) (o : Obj) (k : Nat) (hk : k = w.heap.size) : (w.alloc o).heap[k]? = some o := by subst hk; exact blk_new w o

/-- A callee that leaves the world as it was, at a call in a quiet region. -/
theorem quiet_left {P : Program} {f : FuncId} {args : Array Value} {w : World} {n : Nat} {v : Value}
    (h : Calls P f args (w.drewN n) fun e w' => e = .returned v ∧ w.drewN n = w') : Calls P f args (w.drewN n) fun e w'' => e = .returned v ∧ ∃ m, w'' = w.drewN m :=
  h.mono fun _ _ ⟨he, hm⟩ => ⟨he, n, hm.symm⟩
theorem quiet_add_left {P : Program} {f : FuncId} {args : Array Value} {w : World} {a n : Nat} {v : Value}
    (h : Calls P f args (w.drewN (a + n)) fun e w' => e = .returned v ∧ w.drewN (a + n) = w') : Calls P f args (w.drewN (a + n)) fun e w'' => e = .returned v ∧ ∃ m, w'' = w.drewN (a + m) :=
  h.mono fun _ _ ⟨he, hm⟩ => ⟨he, n, hm.symm⟩

/-- The cells of a row of bytes. -/
def bytesV (l : List UInt8) : List Value := l.map fun b => .int .u8 (b.toNat : Int)
theorem bytesV_length (l : List UInt8) : (bytesV l).length = l.length := by simp [bytesV]
theorem bytesV_one (l : List UInt8) : ∀ u ∈ bytesV l, u.oneCell' = true := by
  intro u hu
  obtain ⟨x, _, rfl⟩ := List.mem_map.1 hu
  rfl
/-- The slice v reads, in w, as the bytes l. -/
def ReadsB (w : World) (v : Value) (l : List UInt8) : Prop :=
  ∃ A c, v = .slice A l.length c ∧ l.length ≤ c ∧ l.length ≤ 140737488355328 ∧ (A = none → l = [] ∧ c = 0) ∧ ∀ ad, A = some ad → ∀ j u, (bytesV l)[j]? = some u → w.cell? (ad.add j) = some u
theorem ReadsB.nil (w : World) : ReadsB w (.slice none 0 0) [] := ⟨none, 0, rfl, Nat.le_refl _, by simp, fun _ => ⟨rfl, rfl⟩, fun ad h => by cases h⟩
theorem ReadsB.keep {w w1 : World} {v : Value} {l : List UInt8} (h : ReadsB w v l) (hk : ∀ (a : Addr) (u : Value), a.block < w.heap.size → w.cell? a = some u → w1.cell? a = some u) : ReadsB w1 v l := by
  obtain ⟨A, c, hv, hlc, hl, hn, hc⟩ := h
  exact ⟨A, c, hv, hlc, hl, hn, fun ad he j u hu => hk _ _ (World.block_lt_of_cell? w _ (hc ad he j u hu)) (hc ad he j u hu)⟩
theorem ReadsB.below {w w1 : World} {v : Value} {l : List UInt8} (h : ReadsB w v l) (hb : Below w.heap.size w w1) : ReadsB w1 v l :=
  h.keep fun a u hlt hc => (hb.cell hlt).trans hc
theorem own_reads {w : World} {B t n : Nat} {v : Value} {l : List UInt8} (h : w.ownsRow B t 1 v n (bytesV l)) (hl : l.length ≤ 140737488355328) : ReadsB w v l := by
  have hn : l.length = n := by have := h.1; simpa [bytesV] using this
  rcases h.2 with ⟨rfl, h0⟩ | ⟨g, cap, cur, rfl, hg, hh, hle, hcap, hcs, htake⟩
  · have : l = [] := List.eq_nil_of_length_eq_zero (by omega)
    subst this
    exact ReadsB.nil w
  · refine ⟨some ⟨g, 0, none⟩, cap, by rw [hn], by omega, hl, (fun e => by cases e), fun ad he j u hu => ?_⟩
    cases he
    exact h.cells (g := g) rfl j u hu
theorem own_slice {w : World} {B t size n : Nat} {v : Value} {xs : List Value} (h : w.ownsRow B t size v n xs) : ∃ A c, v = .slice A n c := by
  rcases h.2 with ⟨rfl, rfl⟩ | ⟨g, cap, cur, rfl, _⟩
  · exact ⟨none, 0, rfl⟩
  · exact ⟨_, cap, rfl⟩
/-- A row of one's own lives on where its block is as it was. -/
theorem own_keep {w w1 : World} {B t size n : Nat} {v : Value} {xs : List Value} (h : w.ownsRow B t size v n xs) (hk : ∀ k, v.ownBlock = some k → w1.heap[k]? = w.heap[k]?) : w1.ownsRow B t size v n xs := by
  refine ⟨h.1, ?_⟩
  rcases h.2 with hn | ⟨g, cap, cur, rfl, hb, hg, rest⟩
  · exact .inl hn
  · exact .inr ⟨g, cap, cur, rfl, hb, (hk g rfl).trans hg, rest⟩
theorem own_lt {w : World} {B t size n : Nat} {v : Value} {xs : List Value} (h : w.ownsRow B t size v n xs) (k : Nat) (hk : v.ownBlock = some k) : B ≤ k ∧ k < w.heap.size := h.lt k hk
/-- A row's block is none of another type's. -/
theorem own_ne {w : World} {B t t' size n g : Nat} {v : Value} {xs : List Value} {cs : Array Value} {fr : Nat × Nat} (h : w.ownsRow B t size v n xs) (hg : w.heap[g]? = some (.cells cs t' fr)) (hne : t ≠ t') (k : Nat) (hk : v.ownBlock = some k) : k ≠ g := by
  rintro rfl
  rcases h.2 with ⟨rfl, _⟩ | ⟨g', cap, cur, rfl, _, hh, _⟩
  · simp [Value.ownBlock] at hk
  · simp [Value.ownBlock] at hk
    subst hk
    rw [hh] at hg
    injection hg with hg
    injection hg with _ h2 _
    exact hne h2
/-- A row's block is of its type. -/
theorem own_ty {w : World} {B t size n : Nat} {v : Value} {xs : List Value} (h : w.ownsRow B t size v n xs) (k : Nat) (hk : v.ownBlock = some k) : ∃ cs fr, w.heap[k]? = some (.cells cs t fr) := by
  rcases h.2 with ⟨rfl, _⟩ | ⟨g', cap, cur, rfl, _, hh, _⟩
  · simp [Value.ownBlock] at hk
  · simp [Value.ownBlock] at hk
    subst hk
    exact ⟨_, _, hh⟩
theorem own_below {w w1 : World} {B t size n : Nat} {v : Value} {xs : List Value} (h : w.ownsRow B t size v n xs) (hb : Below w.heap.size w w1) : w1.ownsRow B t size v n xs :=
  own_keep h fun k hk => hb.block k (own_lt h k hk).2
theorem own_grown {w w1 : World} {B t size n : Nat} {v : Value} {xs : List Value} {r : Option Nat} (h : w.ownsRow B t size v n xs) (hg : w.grownBy w1 r) (hr : ∀ k, v.ownBlock = some k → some k ≠ r) : w1.ownsRow B t size v n xs :=
  own_keep h fun k hk => hg.block k (own_lt h k hk).2 (hr k hk)
/-- A call that boxes one argument and one result of type tf, and works on the state at block g: what is known of the world at a point of it. -/
structure TW (w w1 : World) (g tg tf : Nat) (gc fc ac : Array Value) : Prop where
  lt : g < w.heap.size
  hg : w1.heap[g]? = some (.cells gc tg (0, 0))
  hF : w1.heap[w.heap.size]? = some (.cells fc tf (0, 0))
  hA : w1.heap[w.heap.size + 1]? = some (.cells ac tf (0, 0))
  gr : w.grownBy w1 (some g)
theorem TW.start {w : World} {g tg : Nat} {gc : Array Value} (h : w.heap[g]? = some (.cells gc tg (0, 0))) (tf : Nat) (fc ac : Array Value) :
    TW w ((w.alloc (.cells fc tf)).alloc (.cells ac tf)) g tg tf gc fc ac :=
  ⟨blk_lt h, blk_alloc (blk_alloc h _) _, blk_alloc (blk_new w _) _, blk_new' _ _ _ (by simp), grown_alloc (grown_alloc (grown_refl _ _) _) _⟩
section
variable {w w1 w2 : World} {g tg tf : Nat} {gc fc ac : Array Value}
theorem TW.size (h : TW w w1 g tg tf gc fc ac) : w.heap.size + 1 < w1.heap.size := blk_lt h.hA
theorem TW.drewN (h : TW w w1 g tg tf gc fc ac) (n : Nat) : TW w (w1.drewN n) g tg tf gc fc ac := ⟨h.lt, h.hg, h.hF, h.hA, grown_drewN h.gr n⟩
theorem TW.drew (h : TW w w1 g tg tf gc fc ac) : TW w w1.drew g tg tf gc fc ac := ⟨h.lt, h.hg, h.hF, h.hA, grown_drew h.gr⟩
theorem TW.below (h : TW w w1 g tg tf gc fc ac) (hb : Below w1.heap.size w1 w2) : TW w w2 g tg tf gc fc ac :=
  ⟨h.lt, blk_below' h.hg hb, blk_below' h.hF hb, blk_below' h.hA hb, grown_then h.gr hb⟩
theorem TW.grown (h : TW w w1 g tg tf gc fc ac) (hb : w1.grownBy w2 (some g)) {gc' : Array Value} (hg : w2.heap[g]? = some (.cells gc' tg (0, 0))) : TW w w2 g tg tf gc' fc ac :=
  ⟨h.lt, hg, blk_grown h.hF hb (by simp; have := h.lt; omega), blk_grown h.hA hb (by simp; have := h.lt; omega), grown_trans h.gr hb⟩
theorem TW.setG (h : TW w w1 g tg tf gc fc ac) (i : Nat) (u : Value) : TW w (w1.setCell ⟨g, i, none⟩ u) g tg tf (gc.setIfInBounds i u) fc ac :=
  ⟨h.lt, blk_set h.hg i u, blk_far h.hF (by simp; have := h.lt; omega) u, blk_far h.hA (by simp; have := h.lt; omega) u, grown_set h.gr i u⟩
theorem TW.setA (h : TW w w1 g tg tf gc fc ac) (i : Nat) (u : Value) : TW w (w1.setCell ⟨w.heap.size + 1, i, none⟩ u) g tg tf gc fc (ac.setIfInBounds i u) :=
  ⟨h.lt, blk_far h.hg (by simp; have := h.lt; omega) u, blk_far h.hF (by simp) u, blk_set h.hA i u, grown_set_far h.gr (by simp) u⟩
theorem TW.setF (h : TW w w1 g tg tf gc fc ac) (i : Nat) (u : Value) : TW w (w1.setCell ⟨w.heap.size, i, none⟩ u) g tg tf gc (fc.setIfInBounds i u) ac :=
  ⟨h.lt, blk_far h.hg (by simp; have := h.lt; omega) u, blk_set h.hF i u, blk_far h.hA (by simp) u, grown_set_far h.gr (by simp) u⟩
theorem TW.own (h : TW w w1 g tg tf gc fc ac) {B t size n : Nat} {v : Value} {xs : List Value} {cs : Array Value} {fr : Nat × Nat} (ho : w.ownsRow B t size v n xs) (h0 : w.heap[g]? = some (.cells cs tg fr)) (hne : t ≠ tg) : w1.ownsRow B t size v n xs :=
  own_grown ho h.gr fun k hk e => own_ne ho h0 hne k hk (by simpa using e)
/-- A slice's bytes lie in no block that the state at g holds. -/
def NotIn (g : Nat) (v : Value) (l : List UInt8) : Prop := ∀ ad n c, v = .slice (some ad) n c → l ≠ [] → ad.block ≠ g
theorem ReadsB.grown {v : Value} {l : List UInt8} (h : ReadsB w v l) (hg : w.grownBy w1 (some g)) (hn : NotIn g v l) : ReadsB w1 v l := by
  obtain ⟨A, c, rfl, hlc, hl, hnil, hc⟩ := h
  refine ⟨A, c, rfl, hlc, hl, hnil, fun ad he j u hu => ?_⟩
  have h1 := hc ad he j u hu
  have hne : l ≠ [] := by rintro rfl; simp [bytesV] at hu
  have hb : (ad.add j).block = ad.block := by unfold Addr.add; split <;> rfl
  refine (World.cell?_of_block (w := w) (hg.block _ (World.block_lt_of_cell? w _ h1) ?_)).trans h1
  rw [hb]
  have := hn ad _ _ (by rw [he]) hne
  simpa using this
theorem TW.reads (h : TW w w1 g tg tf gc fc ac) {v : Value} {l : List UInt8} (hr : ReadsB w v l) (hn : NotIn g v l) : ReadsB w1 v l := hr.grown h.gr hn
end
theorem blk_drewN' {w : World} {k : Nat} {o : Option Obj} (h : w.heap[k]? = o) : w.drew.heap[k]? = o := h
theorem far1 {w : World} {k : Nat} {p : Addr} {u : Value} {o : Option Obj} (hp : k ≠ p.block) (h : w.heap[k]? = o) : (w.setCell p u).heap[k]? = o := (Below.heap_setCell _ _ _ _ hp).trans h
theorem own_lower {w : World} {B B' t size n : Nat} {v : Value} {xs : List Value} (h : w.ownsRow B t size v n xs) (hb : B' ≤ B) : w.ownsRow B' t size v n xs := by
  refine ⟨h.1, ?_⟩
  rcases h.2 with hn | ⟨g, cap, cur, rfl, hbg, rest⟩
  · exact .inl hn
  · exact .inr ⟨g, cap, cur, rfl, Nat.le_trans hb hbg, rest⟩
/-- What a cell holds now: for a drawn region whose last store writes a cell that the region loads (S of go_region_held3 says that the cell is there, and holds what it holds). -/
def cellNow (w : World) (g i : Nat) : Value := (w.cell? ⟨g, i, none⟩).getD undef
def HasBlk (w : World) (g t n : Nat) : Prop := ∃ cs : Array Value, cs.size = n ∧ w.heap[g]? = some (.cells cs t (0, 0))
theorem HasBlk.mk {w : World} {g t : Nat} {cs : Array Value} (h : w.heap[g]? = some (.cells cs t (0, 0))) {n : Nat} (hn : cs.size = n) : HasBlk w g t n := ⟨cs, hn, h⟩
theorem HasBlk.cell {w : World} {g t n : Nat} (h : HasBlk w g t n) {i : Nat} (hi : i < n) : w.cell? ⟨g, i, none⟩ = some (cellNow w g i) := by
  obtain ⟨cs, hn, hh⟩ := h
  unfold cellNow
  rw [blk_cell hh, Array.getElem?_eq_getElem (by omega)]
  rfl
theorem HasBlk.frozen {w : World} {g t n : Nat} (h : HasBlk w g t n) (i : Nat) : w.frozen? ⟨g, i, none⟩ = false := by
  obtain ⟨cs, hn, hh⟩ := h
  exact blk_frozen hh i
theorem HasBlk.alloc {w : World} {g t n : Nat} (h : HasBlk w g t n) (o : Obj) : HasBlk (w.alloc o) g t n := by
  obtain ⟨cs, hn, hh⟩ := h
  exact ⟨cs, hn, blk_alloc hh o⟩
theorem HasBlk.drew {w : World} {g t n : Nat} (h : HasBlk w g t n) : HasBlk w.drew g t n := h
theorem HasBlk.drewN {w : World} {g t n : Nat} (h : HasBlk w g t n) (k : Nat) : HasBlk (w.drewN k) g t n := h
theorem HasBlk.below {w w1 : World} {g t n : Nat} (h : HasBlk w g t n) (hb : Below w.heap.size w w1) : HasBlk w1 g t n := by
  obtain ⟨cs, hn, hh⟩ := h
  exact ⟨cs, hn, blk_below' hh hb⟩
theorem HasBlk.grown {w w1 : World} {g t n : Nat} {row : Option Nat} (h : HasBlk w g t n) (hg : w.grownBy w1 row) (hne : some g ≠ row) : HasBlk w1 g t n := by
  obtain ⟨cs, hn, hh⟩ := h
  exact ⟨cs, hn, blk_grown hh hg hne⟩
theorem HasBlk.set {w : World} {g t n : Nat} (h : HasBlk w g t n) (k i : Nat) (u : Value) : HasBlk (w.setCell ⟨k, i, none⟩ u) g t n := by
  obtain ⟨cs, hn, hh⟩ := h
  by_cases e : g = k
  · subst e
    exact ⟨_, by simpa using hn, blk_set hh i u⟩
  · exact ⟨cs, hn, blk_far hh e u⟩
theorem cellNow_eq {w : World} {g i : Nat} {u : Value} (h : w.cell? ⟨g, i, none⟩ = some u) : cellNow w g i = u := by unfold cellNow; rw [h]; rfl
/-- append(v, x...) for a row of bytes of one's own and bytes that are read, nil let in. -/
theorem wpList_append_reads {P : Program} {w : World} {ops : Array Oper} {rest : List Oper} {o : Oper} {a : Act} {Q : Exit → Act → World → Prop} (hgd : o.guard = none) (s x : Operand) (t : TypeId)
    (ho : o.op = .call { callee := .builtin .append, args := #[s, x], argTypes := #[t, t] })
    (base : Nat) (e : TypeId) (i : TypeInfo) (ht : P.underlying t = some (.slice e)) (hi : P.info? e = some i) (hz : i.zero = some (.int .u8 0)) (hsize : i.size = 1) (hby : i.bytes = 1)
    (v xv : Value) (xs l : List UInt8) (hs : a.eval s = v) (hown : w.ownsRow base e 1 v xs.length (bytesV xs)) (hx : a.eval x = xv) (hr : ReadsB w xv l)
    (hbytes : xs.length + l.length ≤ 140737488355328) (hbase : base ≤ w.heap.size)
    (h : ∀ v' w', w'.ownsRow base e 1 v' (xs ++ l).length (bytesV (xs ++ l)) → w.grownBy w' v.ownBlock → wpList P ops Q rest (a.put o.dst v') w') : wpList P ops Q (o :: rest) a w := by
  obtain ⟨A, c, rfl, hlc, hl, hnil, hcell⟩ := hr
  cases A with
  | none =>
    obtain ⟨rfl, rfl⟩ := hnil rfl
    exact wpList_append_own_none hgd s x t ho base e i 1 ht hi v xs.length _ hs hown hx (h v w (by simpa using hown) (grown_refl _ _))
  | some ad =>
    exact wpList_append_own w hgd s x t ho base e i (.int .u8 0) 1 1 ht hi hz hsize hby rfl (by decide) v xs.length (bytesV xs) hs hown ad l.length c (bytesV l) hx (by simp [bytesV]) (hcell ad rfl) (bytesV_one l)
      (by unfold maxLen; omega) (by omega) hbase fun v' w' ho' hg' _ => h v' w' (by simpa [bytesV] using ho') hg'
end Go.Proofs.Ytmhdckpmkgkglaa
