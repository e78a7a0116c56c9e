/- What the walk of PollSame holds. -/
import Derived.Test.YtmkbleeideddkaaPq
import Derived.Deep.RegionHeld3
set_option linter.unusedVariables false
set_option linter.unusedSimpArgs false
namespace Go.Proofs.Ytmkbleeideddkaa
open Go.RowKit

theorem wpAnyH_mono {P : Program} {md : Region.Mode} {ops : Array Oper} {Q : Exit → Act → World → Prop} {S S' : World → Prop} (h : ∀ w, S' w → S w) : ∀ {fuel : Nat} {listed : Array Bool} {a : Act} {w : World}, wpAnyH P md ops Q S' fuel listed a w → wpAnyH P md ops Q S fuel listed a w := by
  intro fuel
  induction fuel with
  | zero => exact fun hh => hh
  | succ fuel ih => exact fun hh => ⟨hh.1, fun i hi => wpOp_mono (fun _ _ h' => ⟨h _ h'.1, ih h'.2⟩) (hh.2 i hi)⟩
/-- Two polls of one state, whose addresses are AL. -/
structure Same (w wr : World) (g h : Nat) (v v2 : Value) (us us2 : List Nat) (AL : List Int) (P : PS) : Prop where
  tw : Two w wr g h v v2 us us2 P P
  ad : P.row.map PP.addr = AL
theorem Same.below {w wr w2 : World} {g h : Nat} {v v2 : Value} {us us2 : List Nat} {AL : List Int} {P : PS} (s : Same w wr g h v v2 us us2 AL P) (hb : Below wr.heap.size wr w2) : Same w w2 g h v v2 us us2 AL P := ⟨s.tw.below hb, s.ad⟩
/-- The copied step. -/
def BoxAt (w : World) (bx : Nat) (kd y now : Int) : Prop := w.heap[bx]? = some (.cells #[.int .i64 kd, .int .u8 y, .int .i64 now] 30 (0, 0))
def BoxS (w : World) (bx : Nat) (kd y now : Int) : Prop := BoxAt w bx kd y now ∧ w.cell? ⟨bx, 1, none⟩ = some (.int .u8 y) ∧ w.cell? ⟨bx, 2, none⟩ = some (.int .i64 now)
theorem BoxAt.all {w : World} {bx : Nat} {kd y now : Int} (h : BoxAt w bx kd y now) : BoxS w bx kd y now := ⟨h, blk_cell h 1, blk_cell h 2⟩
theorem BoxAt.keptU {w w2 : World} {B g bx : Nat} {v : Value} {us : List Nat} {P : PS} {kd y now : Int} (h : BoxAt w bx kd y now) (hp : PollIn w B g v us P) (k : KeptU g us w w2) : BoxAt w2 bx kd y now := (k.kept hp).blk h (by decide)
theorem addr_bytes {AL : List Int} (h : ∀ n ∈ AL, 1 ≤ n ∧ n ≤ 31) : bytesV (toB AL) = AL.map (Value.int .u8) := by
  simp only [bytesV, toB, List.map_map]
  refine List.map_congr_left fun n hn => ?_
  have := h n hn
  simp only [Function.comp]
  congr 1
  simp only [UInt8.toNat_ofNat']
  omega
/-- Addrs, as bytes that can be read. -/
theorem poll_addrsR (w : World) (B g : Nat) (P : PS) (AL : List Int) (h : PollAt w B g P) (ha : P.row.map PP.addr = AL) (hal : ∀ n ∈ AL, 1 ≤ n ∧ n ≤ 31) :
    Calls Try.prog 21 #[.pointer (some ⟨g, 0, none⟩)] w fun e w' => Below w.heap.size w w' ∧ ∃ A c, e = .returned (.slice A AL.length c) ∧ ReadsB w' (.slice A AL.length c) (toB AL) := by
  have h40 : P.row.length ≤ 40 := by obtain ⟨_, _, hin⟩ := h; exact hin.n40
  refine (poll_addrs w B g P h).mono fun e w' hh => ?_
  obtain ⟨hb, v, rfl, ho⟩ := hh
  have hv : addrV P.row = bytesV (toB AL) := by rw [addr_bytes hal, ← ha]; unfold addrV; simp
  have hl : P.row.length = AL.length := by rw [← ha]; simp
  have hl2 : (toB AL).length = AL.length := by unfold toB; simp
  rw [hv, hl] at ho
  obtain ⟨A, c, rfl⟩ := own_slice ho
  refine ⟨hb, A, c, rfl, ?_⟩
  rw [← hl2] at ho ⊢
  exact own_reads ho (by omega)
/-- A row of bytes behind, that may be written over. -/
def RowZ (w : World) (C : Nat) (v : Value) (n : Nat) : Prop := (v = .slice none 0 0 ∧ n = 0) ∨ ∃ b c cs, v = .slice (some ⟨b, 0, none⟩) n c ∧ C ≤ b ∧ n ≤ c ∧ c ≤ 9223372036854775807 ∧ w.heap[b]? = some (.cells cs 5 (0, 0)) ∧ n ≤ cs.size
theorem RowZ.of {w : World} {C n : Nat} {v : Value} {xs : List Value} (h : w.ownsRow C 5 1 v n xs) : RowZ w C v n := by
  rcases h.2 with ⟨h1, h2⟩ | ⟨b, cap, cur, h1, h2, h3, h4, h5, h6, _⟩
  · exact .inl ⟨h1, h2⟩
  · exact .inr ⟨b, cap, cur, h1, h2, h4, by unfold maxLen at h5; omega, h3, by omega⟩
structure Scrub (w wr : World) (g h : Nat) (v v2 : Value) (us us2 : List Nat) (AL : List Int) (P : PS) (x : Value) : Prop where
  s : Same w wr g h v v2 us us2 AL P
  z : RowZ wr w.heap.size x AL.length
theorem Scrub.at {w wr : World} {g h : Nat} {v v2 x : Value} {us us2 : List Nat} {AL : List Int} {P : PS} (t : Scrub w wr g h v v2 us us2 AL P x) {k : Nat} (hk : k < AL.length) :
    ∃ b c z, x = .slice (some ⟨b, 0, none⟩) AL.length c ∧ AL.length ≤ c ∧ c ≤ 9223372036854775807 ∧ wr.cell? ⟨b, k, none⟩ = some z ∧ wr.frozen? ⟨b, k, none⟩ = false ∧ ∀ u, Scrub w (wr.setCell ⟨b, k, none⟩ u) g h v v2 us us2 AL P x := by
  rcases t.z with ⟨_, h0⟩ | ⟨b, c, cs, rfl, hb, h1, h2, h3, h4⟩
  · omega
  · refine ⟨b, c, cs[k]'(by omega), rfl, h1, h2, ?_, blk_frozen h3 k, fun u => ?_⟩
    · rw [blk_cell h3 k]
      exact Array.getElem?_eq_getElem _
    · have k5 : Kept w.heap.size [5] wr (wr.setCell ⟨b, k, none⟩ u) := Kept.of_grown (grown_set (grown_refl _ _) _ _) h3 (by simp) hb
      refine ⟨⟨⟨t.s.tw.be.trans (k5.below t.s.tw.be.size), t.s.tw.p.kept k5 (by decide) (by decide) (by decide), t.s.tw.q.kept k5 (by decide) (by decide) (by decide), t.s.tw.ne, t.s.tw.dj⟩, t.s.ad⟩, .inr ⟨b, c, _, rfl, hb, h1, h2, blk_set h3 k u, by simpa using h4⟩⟩
theorem best_in {l : List PP} {now : Int} {k b : Nat} (h : bestF l now k = some b) : b < l.length := (best_lt l now k b h).2
theorem addrAt_mem {l : List PP} {i : Nat} (h : i < l.length) : addrAt l i ∈ l.map PP.addr := by
  rw [addrAt_of (List.getElem?_eq_getElem h)]
  exact List.mem_map.2 ⟨_, List.getElem_mem h, rfl⟩
/-- Whoever is told is of the row; the row's addresses stay. -/
theorem next_law (P : PS) (now : Int) : ∃ (a : Int) (ok : Bool) (P' : PS), P.next now = (a, ok, P') ∧ P'.row.map PP.addr = P.row.map PP.addr ∧ (ok = true → a ∈ P.row.map PP.addr) ∧ (ok = false → a = 0) := by
  unfold PS.next
  cases hb : bestF P.row now P.row.length with
  | some i => exact ⟨_, _, _, rfl, modify_addr _ _ _ fun p => rfl, fun _ => addrAt_mem (best_in hb), fun h => (by cases h)⟩
  | none =>
    cases ha : aliveF P.row P.turn P.row.length 0 with
    | none => exact ⟨_, _, _, rfl, rfl, fun h => (by cases h), fun _ => rfl⟩
    | some j =>
      obtain ⟨-, h2, -, -⟩ := aliveF_some _ _ _ ha
      exact ⟨_, _, _, rfl, rfl, fun _ => addrAt_mem (Nat.mod_lt _ (by omega)), fun h => (by cases h)⟩
theorem dead_law (P : PS) (a now : Int) : ∃ (n : Int) (P' : PS), P.dead a now = (n, P') ∧ P'.row.map PP.addr = P.row.map PP.addr ∧ P'.turn = P.turn := by
  unfold PS.dead
  cases hf : findF P.row a with
  | none => exact ⟨_, _, rfl, rfl, rfl⟩
  | some i => exact ⟨_, _, rfl, modify_addr _ _ _ fun p => rfl, rfl⟩
theorem alive_law (P : PS) (a : Int) : ∃ (n : Int) (P' : PS), P.alive a = (n, P') ∧ P'.row.map PP.addr = P.row.map PP.addr ∧ P'.turn = P.turn := by
  unfold PS.alive
  cases hf : findF P.row a with
  | none => exact ⟨_, _, rfl, rfl, rfl⟩
  | some i => exact ⟨_, _, rfl, modify_addr _ _ _ fun p => rfl, rfl⟩
end Go.Proofs.Ytmkbleeideddkaa
