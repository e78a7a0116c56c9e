/- Rows of bytes, what a call leaves as it was: for every chapter. -/
import Derived.Test.YtmkbleeideddkaaProg
import Derived.Test.YtmkbleeideddkaaBase
import Derived.WalkKit
import Derived.Deep.QuietTactic
import Derived.BigQuiet
import Derived.StillTailTactics
import Derived.KernelRfl
import Derived.Lib.Hide
import Derived.WalkSpells
import Derived.Handy
import Derived.Deep.RegionHeld3
import Derived.Lib.ConvBytes
import Derived.Lib.SlBytesConst
import Derived.ChangeArms
import Derived.ChangeSlices
import Derived.Deep.Slices
import Derived.Deep.Strs
import Derived.Laws.StructEq
import Derived.WideShapes
import Derived.Test.YtmkbleeideddkaaOw
import Derived.Outline
set_option linter.unusedVariables false
set_option linter.unusedSimpArgs false
namespace Go.Proofs.Ytmkbleeideddkaa
open Go.RowKit Go.ChangeShapes Go.WideShapes

theorem Try.info5 : (Try.prog.info? 5).map (fun i => (i.zero, i.size, i.bytes)) = some (some (.int .u8 0), 1, 1) := by kernel_rfl
theorem conv_bytes (w : World) (v : Value) (l : List UInt8) (h : ReadsB w v l) : (convert 22 9 v).run Try.prog w = .ok (.string ⟨l.toArray⟩) w := by
  obtain ⟨A, c, rfl, hlc, hl, hnil, hcell⟩ := h
  cases A with
  | none =>
    obtain ⟨rfl, rfl⟩ := hnil rfl
    exact run_convert_bytes_nil w 22 5 Try.underlying22 Try.underlying5 0 0 9 Try.underlying9
  | some ad =>
    refine run_convert_bytes_back w 22 9 5 ad c l Try.underlying22 Try.underlying5 Try.underlying9 fun j hj => hcell ad rfl j _ ?_
    simp [bytesV, List.getElem?_eq_getElem hj]

theorem conv_const (w : World) (C : Array Value) (b n c : Nat) (hb : b = w.heap.size) : (convert 22 22 (.slice (some ⟨b, 0, none⟩) n c)).run Try.prog (w.alloc (.cells C 5)) = .ok (.slice (some ⟨b, 0, none⟩) n c) (w.alloc (.cells C 5 (C.size, C.size + 1))) := by
  subst hb
  exact Lib.run_convert_bytes_const (P := Try.prog) w 22 5 C n c Try.underlying22 Try.underlying5

theorem reads_lit {w : World} {b t : Nat} {cs : Array Value} {fr : Nat × Nat} (h : w.heap[b]? = some (.cells cs t fr)) (l : List UInt8) (hc : cs = (bytesV l).toArray) (hl : l.length ≤ 140737488355328) : ReadsB w (.slice (some ⟨b, 0, none⟩) l.length l.length) l := by
  refine ⟨_, _, rfl, Nat.le_refl _, hl, (fun e => by cases e), fun ad he j u hu => ?_⟩
  cases he
  have : (⟨b, 0, none⟩ : Addr).add j = ⟨b, j, none⟩ := by unfold Addr.add; split <;> simp_all
  rw [this, blk_cell h j, hc]
  simpa using hu

/-- A slice of whole numbers that came in (the row's own words). -/
def IsRow8 (w : World) (a : Option Addr) (len cap : Nat) (zs : List Int) : Prop :=
  (a = none ∧ len = 0 ∧ cap = 0 ∧ zs = []) ∨
  ∃ x, a = some x ∧ len ≤ cap ∧ cap ≤ maxLen ∧ zs.length = cap ∧ (∀ i, i < zs.length → w.cell? (x.add i) = some (.int .u8 (zs.getD i 0))) ∧ ∀ n ∈ zs, (Lit.int .u8 n).wf = true

theorem wf_u8 {n : Int} (h : (Lit.int .u8 n).wf = true) : 0 ≤ n ∧ n ≤ 255 := by
  have := bounds_u8 h
  omega

/-- Its elements as bytes. -/
def toB (zs : List Int) : List UInt8 := zs.map fun n => UInt8.ofNat n.toNat
theorem toB_get {zs : List Int} (h : ∀ n ∈ zs, (Lit.int .u8 n).wf = true) : bytesV (toB zs) = zs.map (Value.int .u8) := by
  simp only [bytesV, toB, List.map_map]
  refine List.map_congr_left fun n hn => ?_
  have := wf_u8 (h n hn)
  simp only [Function.comp]
  congr 1
  simp only [UInt8.toNat_ofNat']
  omega
theorem row_reads {w : World} {a : Option Addr} {len cap : Nat} {zs : List Int} (h : IsRow8 w a len cap zs) (hl : len ≤ 140737488355328) : ReadsB w (.slice a len cap) (toB (zs.take len)) := by
  rcases h with ⟨rfl, rfl, rfl, rfl⟩ | ⟨x, rfl, hlc, hm, hz, hc, hw⟩
  · exact ReadsB.nil w
  · have hlen : (toB (zs.take len)).length = len := by simp [toB]; omega
    refine ⟨some x, cap, by rw [hlen], by omega, by omega, (fun e => by cases e), fun ad he j u hu => ?_⟩
    cases he
    rw [toB_get (fun n hn => hw n (List.mem_of_mem_take hn))] at hu
    have hj : j < len := by
      have := (List.getElem?_eq_some_iff.1 hu).1
      simp at this; omega
    rw [hc j (by omega)]
    simp [List.getElem?_take, hj, show j < zs.length by omega] at hu
    rw [← hu]
    simp [List.getD, show j < zs.length by omega]

theorem reads_two {w : World} {b t : Nat} {c0 c1 : Value} {fr : Nat × Nat} {l : List UInt8} (h : w.heap[b]? = some (.cells #[c0, c1] t fr)) (hc : bytesV l = [c0, c1]) (hl : l.length = 2) : ReadsB w (.slice (some ⟨b, 0, none⟩) 2 2) l := by
  have := reads_lit h l (by rw [hc]) (by omega)
  rwa [hl] at this

section
variable {H : Type} {enc : TypeId × Value → H} {w : World} {held : Bool}
theorem row_in {fuel : Nat} {cs : List Value} {d : DataW H × List MemPlace} (h : DataW.trod enc Try.prog w 0 (fun _ => true) held fuel 22 cs = some d) :
    ∃ a n c z, cs = [.slice a n c] ∧ IsRow8 w a n c z := by
  rcases open_ints Try.underlying22 Try.underlying5 (by kernel_rfl) h with ⟨hcs, _⟩ | ⟨x, l, c, zs, hcs, _, hl, hm, hz, _, hcell, hwz⟩
  · exact ⟨none, 0, 0, [], hcs, .inl ⟨rfl, rfl, rfl, rfl⟩⟩
  · exact ⟨some x, l, c, zs, hcs, .inr ⟨x, rfl, hl, hm, by simpa using hz, hcell, hwz⟩⟩

end
theorem IsRow8.below {w w1 : World} {B : Nat} {a : Option Addr} {len cap : Nat} {zs : List Int} (h : IsRow8 w a len cap zs) (hb : Below w.heap.size w w1) : IsRow8 w1 a len cap zs := by
  rcases h with h | ⟨x, h1, h2, h3, h4, hc, h5⟩
  · exact .inl h
  · exact .inr ⟨x, h1, h2, h3, h4, fun i hi => (hb.cell (World.block_lt_of_cell? w _ (hc i hi))).trans (hc i hi), h5⟩
theorem IsRow8.cut {w : World} {a : Option Addr} {len cap m : Nat} {zs : List Int} (h : IsRow8 w a len cap zs) (hm : m ≤ len) : IsRow8 w a m cap zs := by
  rcases h with ⟨h1, h2, h3, h4⟩ | ⟨x, h1, h2, h3⟩
  · exact .inl ⟨h1, by omega, h3, h4⟩
  · exact .inr ⟨x, h1, by omega, h3⟩
theorem IsRow8.cap {w : World} {a : Option Addr} {len cap : Nat} {zs : List Int} (h : IsRow8 w a len cap zs) : len ≤ cap ∧ cap ≤ 9223372036854775807 := by
  rcases h with ⟨_, h1, h2, _⟩ | ⟨x, _, h1, h2, _⟩
  · omega
  · unfold maxLen at h2; exact ⟨h1, h2⟩
theorem IsRow8.notIn {w : World} {a : Option Addr} {len cap m c : Nat} {zs : List Int} (h : IsRow8 w a len cap zs) {g : Nat} (hg : w.heap.size ≤ g) : NotIn g (.slice a m c) (toB (zs.take m)) := by
  rintro ad n c' e hl
  injection e with e1 e2 e3
  rcases h with ⟨_, _, _, rfl⟩ | ⟨x, h1, _, _, _, hc, _⟩
  · simp [toB] at hl
  · obtain rfl : x = ad := by simpa [h1] using e1
    have hz : 0 < zs.length := by
      rcases Nat.eq_zero_or_pos zs.length with h0 | h0
      · exact absurd (by simp [toB, List.length_eq_zero_iff.1 h0]) hl
      · exact h0
    have := World.block_lt_of_cell? w _ (hc 0 hz)
    simp only [Addr.add] at this
    intro hb
    simp [hb] at this
    omega
/-- What a call leaves as it was: all that lies ahead of B, and all blocks of other types than ts. -/
structure Kept (B : Nat) (ts : List TypeId) (w w' : World) : Prop where
  os : w'.os = w.os
  tape : w'.tape = w.tape
  output : w'.output = w.output
  size : w.heap.size ≤ w'.heap.size
  block : ∀ k, k < w.heap.size → (k < B ∨ ∃ cs t fr, w.heap[k]? = some (.cells cs t fr) ∧ t ∉ ts) → w'.heap[k]? = w.heap[k]?

theorem Kept.refl (B : Nat) (ts : List TypeId) (w : World) : Kept B ts w w := ⟨rfl, rfl, rfl, Nat.le_refl _, fun _ _ _ => rfl⟩
theorem Kept.trans {B : Nat} {ts : List TypeId} {w w1 w2 : World} (h : Kept B ts w w1) (k : Kept B ts w1 w2) : Kept B ts w w2 :=
  ⟨k.os.trans h.os, k.tape.trans h.tape, k.output.trans h.output, Nat.le_trans h.size k.size, fun i hi hc => by
    have h1 := h.block i hi hc
    refine (k.block i (Nat.lt_of_lt_of_le hi h.size) ?_).trans h1
    rcases hc with hc | ⟨cs, t, fr, hc, ht⟩
    · exact .inl hc
    · exact .inr ⟨cs, t, fr, h1.trans hc, ht⟩⟩
theorem Kept.of_below {B : Nat} {ts : List TypeId} {w w1 : World} (h : Below w.heap.size w w1) : Kept B ts w w1 :=
  ⟨h.os, h.tape, h.output, h.size, fun i hi _ => h.block i hi⟩
theorem Kept.of_grown {B g : Nat} {ts : List TypeId} {w w1 : World} {cs : Array Value} {t : TypeId} {fr : Nat × Nat} (h : w.grownBy w1 (some g)) (hg : w.heap[g]? = some (.cells cs t fr)) (ht : t ∈ ts) (hB : B ≤ g) : Kept B ts w w1 :=
  ⟨h.os, h.tape, h.output, h.size, fun i hi hc => h.block i hi (fun e => by
    cases e
    rcases hc with hc | ⟨cs', t', fr', hc, ht'⟩
    · omega
    · rw [hg] at hc
      cases hc
      exact ht' ht)⟩
theorem Kept.mono {B : Nat} {ts ts' : List TypeId} {w w1 : World} (h : Kept B ts w w1) (hs : ∀ t ∈ ts, t ∈ ts') : Kept B ts' w w1 :=
  ⟨h.os, h.tape, h.output, h.size, fun i hi hc => h.block i hi (by
    rcases hc with hc | ⟨cs, t, fr, hc, ht⟩
    · exact .inl hc
    · exact .inr ⟨cs, t, fr, hc, fun hx => ht (hs t hx)⟩)⟩
theorem Kept.below {B : Nat} {ts : List TypeId} {w w1 : World} (h : Kept B ts w w1) (hB : B ≤ w.heap.size) : Below B w w1 :=
  ⟨h.os, h.tape, h.output, h.size, fun i hi => h.block i (Nat.lt_of_lt_of_le hi hB) (.inl hi)⟩
theorem Kept.blk {B k : Nat} {ts : List TypeId} {w w1 : World} {cs : Array Value} {t : TypeId} {fr : Nat × Nat} (h : Kept B ts w w1) (hg : w.heap[k]? = some (.cells cs t fr)) (ht : t ∉ ts) : w1.heap[k]? = some (.cells cs t fr) :=
  (h.block k (blk_lt hg) (.inr ⟨cs, t, fr, hg, ht⟩)).trans hg

theorem off_ty {w : World} {B n size : Nat} {e : TypeId} {v : Value} {xs : List Value} (h : OffRow w B e size v n xs) (k : Nat) (hk : v.ownBlock = some k) : ∃ cs, w.heap[k]? = some (.cells cs e (0, 0)) := by
  rcases h.2 with ⟨rfl, _⟩ | ⟨g', o, cap, cur, rfl, _, hh, _⟩
  · simp [Value.ownBlock] at hk
  · simp [Value.ownBlock] at hk
    subst hk
    exact ⟨_, hh⟩
theorem off_of_own {w : World} {B n size : Nat} {e : TypeId} {v : Value} {xs : List Value} (h : w.ownsRow B e size v n xs) : OffRow w B e size v n xs := by
  refine ⟨h.1, ?_⟩
  rcases h.2 with h0 | ⟨g, cap, cur, rfl, hb, hh, h1, h2, h3, h4⟩
  · exact .inl h0
  · exact .inr ⟨g, 0, cap, cur, by simp, hb, hh, h1, h2, by simp [h3], by simpa using h4⟩
theorem off_lower {w : World} {B B' n size : Nat} {e : TypeId} {v : Value} {xs : List Value} (h : OffRow w B e size v n xs) (hb : B' ≤ B) : OffRow w B' e size v n xs := by
  refine ⟨h.1, ?_⟩
  rcases h.2 with h0 | ⟨g, o, cap, cur, rfl, hbg, rest⟩
  · exact .inl h0
  · exact .inr ⟨g, o, cap, cur, rfl, Nat.le_trans hb hbg, rest⟩
/-- The cells of a row that begins somewhere. -/
theorem OffRow.cells1 {w : World} {base n : Nat} {e : TypeId} {xs : List Value} {ad : Addr} {c : Nat} (h : OffRow w base e 1 (.slice (some ad) n c) n xs) : ∀ (j : Nat) (u : Value), xs[j]? = some u → w.cell? (ad.add j) = some u := by
  intro j u hu
  rcases h.2 with ⟨h0, _⟩ | ⟨g, o, cap, cur, he, hb, hg, hnc, hcm, hcs, htake⟩
  · cases h0
  · cases he
    rw [Addr.add_lit, blk_cell hg]
    rw [← htake] at hu
    have hj : j < n := by
      have := (List.getElem?_eq_some_iff.1 hu).1
      simp at this
      omega
    rw [List.getElem?_take, if_pos (by omega), List.getElem?_drop] at hu
    rw [← hu]
    simp
theorem Kept.of_row {B n size : Nat} {e : TypeId} {v : Value} {xs : List Value} {ts : List TypeId} {w w1 : World} (h : w.grownBy w1 v.ownBlock) (ho : OffRow w B e size v n xs) (he : e ∈ ts) : Kept B ts w w1 :=
  ⟨h.os, h.tape, h.output, h.size, fun k hk hc => h.block k hk (fun e1 => by
    rcases ho.2 with ⟨rfl, _⟩ | ⟨g', o, cap, cur, rfl, hb, hh, _⟩
    · simp [Value.ownBlock] at e1
    · simp [Value.ownBlock] at e1
      subst e1
      rcases hc with hc | ⟨cs', t', fr', hc, ht'⟩
      · omega
      · rw [hh] at hc
        cases hc
        exact ht' he)⟩
end Go.Proofs.Ytmkbleeideddkaa
