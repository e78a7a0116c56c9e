/- Frames, bytes and steps: what the laws on frames use. -/
import Derived.Test.YtdgbmiobfehpdaaProg
import Derived.Test.YtdgbmiobfehpdaaBase
import Derived.WalkKit
import Derived.Deep.QuietTactic
import Derived.BigQuiet
import Derived.StillTailTactics
import Derived.KernelRfl
import Derived.Lib.Hide
import Derived.WalkSpells
import Derived.Handy
import Derived.Deep.RegionHeld3
import Derived.Lib.ConvBytes
import Derived.Lib.SlBytesConst
import Derived.ChangeArms
import Derived.ChangeSlices
import Derived.Deep.Slices
import Derived.Deep.Strs
import Derived.Laws.StructEq
import Derived.WideShapes
set_option linter.unusedVariables false
set_option linter.unusedSimpArgs false
namespace Go.Proofs.Ytdgbmiobfehpdaa
open Go.RowKit Go.ChangeShapes Go.WideShapes

/-- A frame. -/
structure FR where
  addr : Int
  kind : Int
  sess : Int
  seq : Int
  ack : Int
  b : List UInt8

def FR.zero : FR := ⟨0, 0, 0, 0, 0, []⟩
theorem Try.info5 : (Try.prog.info? 5).map (fun i => (i.zero, i.size, i.bytes)) = some (some (.int .u8 0), 1, 1) := by kernel_rfl

set_option maxHeartbeats 400000 in
theorem clone_any (w : World) (v : Value) (l : List UInt8) (h : ReadsB w v l) :
    Calls Try.prog 29 #[v] w fun e w' => ∃ v', e = .returned v' ∧ w'.ownsRow w.heap.size 5 1 v' l.length (bytesV l) ∧ Below w.heap.size w w' := by
  obtain ⟨A, c, rfl, hlc, hl, hnil, hcell⟩ := h
  obtain ⟨i0, hi, hz0, hz1, hz2⟩ := info_parts Try.info5
  have q22 : ∀ (w : World) (a : Option Addr) (n c n' c' : Nat), (binOp .eql 26 (.slice a n c) (.slice none n' c')).run Try.prog w = .ok (.bool a.isNone) w := fun w a n c n' c' => Lib.run_eql_slice_nil w _ _ a n c n' c' Try.underlying26
  cases A with
  | none =>
    obtain ⟨rfl, rfl⟩ := hnil rfl
    go_enter Try.func29, Try.ntmps29
    go_wp2
    go_ret
    exact ⟨_, rfl, World.ownsRow_nil _ _ _ _, Below.refl _ _⟩
  | some ad =>
    have HC := Lib.hid (hcell ad rfl)
    clear hcell hnil
    go_enter Try.func29, Try.ntmps29
    go_wp2_with (at_builtin; refine wpList_append_own _ rfl _ _ 26 rfl w.heap.size 5 i0 (.int .u8 0) 1 1 Try.underlying26 hi hz0 hz1 hz2 rfl (by decide) _ _ _ rfl (World.ownsRow_made w #[] 0 (Nat.le_refl _) (Nat.zero_le _) rfl) ad l.length c (bytesV l) rfl ?qc1 ?qc2 ?qc3 ?qc4 ?qc5 ?qc6 ?_)
    case qc1 => simp [bytesV]
    case qc2 =>
      intro j u hj
      have := HC.out j u hj
      rw [World.cell?_alloc_lt _ _ _ (World.block_lt_of_cell? w _ this)]
      exact this
    case qc3 => exact bytesV_one l
    case qc4 => unfold maxLen; omega
    case qc5 => omega
    case qc6 => simp
    intro v' w1 hown hgrow hnil
    go_wp2
    go_ret
    refine ⟨v', rfl, by simpa using hown, ?_⟩
    exact ((Below.refl _ w).alloc (Nat.le_refl _) _).grown hgrow (by simp) (by intro k hk; simp [Value.ownBlock] at hk; omega)

theorem conv_bytes (w : World) (v : Value) (l : List UInt8) (h : ReadsB w v l) : (convert 26 9 v).run Try.prog w = .ok (.string ⟨l.toArray⟩) w := by
  obtain ⟨A, c, rfl, hlc, hl, hnil, hcell⟩ := h
  cases A with
  | none =>
    obtain ⟨rfl, rfl⟩ := hnil rfl
    exact run_convert_bytes_nil w 26 5 Try.underlying26 Try.underlying5 0 0 9 Try.underlying9
  | some ad =>
    refine run_convert_bytes_back w 26 9 5 ad c l Try.underlying26 Try.underlying5 Try.underlying9 fun j hj => hcell ad rfl j _ ?_
    simp [bytesV, List.getElem?_eq_getElem hj]

theorem conv_const (w : World) (C : Array Value) (b n c : Nat) (hb : b = w.heap.size) : (convert 26 26 (.slice (some ⟨b, 0, none⟩) n c)).run Try.prog (w.alloc (.cells C 5)) = .ok (.slice (some ⟨b, 0, none⟩) n c) (w.alloc (.cells C 5 (C.size, C.size + 1))) := by
  subst hb
  exact Lib.run_convert_bytes_const (P := Try.prog) w 26 5 C n c Try.underlying26 Try.underlying5

theorem reads_lit {w : World} {b t : Nat} {cs : Array Value} {fr : Nat × Nat} (h : w.heap[b]? = some (.cells cs t fr)) (l : List UInt8) (hc : cs = (bytesV l).toArray) (hl : l.length ≤ 140737488355328) : ReadsB w (.slice (some ⟨b, 0, none⟩) l.length l.length) l := by
  refine ⟨_, _, rfl, Nat.le_refl _, hl, (fun e => by cases e), fun ad he j u hu => ?_⟩
  cases he
  have : (⟨b, 0, none⟩ : Addr).add j = ⟨b, j, none⟩ := by unfold Addr.add; split <;> simp_all
  rw [this, blk_cell h j, hc]
  simpa using hu


theorem fieldFrame2 (a k s q c : Int) (v : Value) (W : World) : (Instr.field 30 (.agg #[.int .u8 a, .int .u8 k, .int .u8 s, .int .u8 q, .int .u8 c, v]) 2).run Try.prog W = .ok (.int .u8 s) W := by kernel_rfl
theorem fieldFrame4 (a k s q c : Int) (v : Value) (W : World) : (Instr.field 30 (.agg #[.int .u8 a, .int .u8 k, .int .u8 s, .int .u8 q, .int .u8 c, v]) 4).run Try.prog W = .ok (.int .u8 c) W := by kernel_rfl
/-- A slice of whole numbers that came in (the row's own words). -/
def IsRow8 (w : World) (a : Option Addr) (len cap : Nat) (zs : List Int) : Prop :=
  (a = none ∧ len = 0 ∧ cap = 0 ∧ zs = []) ∨
  ∃ x, a = some x ∧ len ≤ cap ∧ cap ≤ maxLen ∧ zs.length = cap ∧ (∀ i, i < zs.length → w.cell? (x.add i) = some (.int .u8 (zs.getD i 0))) ∧ ∀ n ∈ zs, (Lit.int .u8 n).wf = true

theorem wf_u8 {n : Int} (h : (Lit.int .u8 n).wf = true) : 0 ≤ n ∧ n ≤ 255 := by
  have := bounds_u8 h
  omega

/-- Its elements as bytes. -/
def toB (zs : List Int) : List UInt8 := zs.map fun n => UInt8.ofNat n.toNat
theorem toB_get {zs : List Int} (h : ∀ n ∈ zs, (Lit.int .u8 n).wf = true) : bytesV (toB zs) = zs.map (Value.int .u8) := by
  simp only [bytesV, toB, List.map_map]
  refine List.map_congr_left fun n hn => ?_
  have := wf_u8 (h n hn)
  simp only [Function.comp]
  congr 1
  simp only [UInt8.toNat_ofNat']
  omega
theorem row_reads {w : World} {a : Option Addr} {len cap : Nat} {zs : List Int} (h : IsRow8 w a len cap zs) (hl : len ≤ 140737488355328) : ReadsB w (.slice a len cap) (toB (zs.take len)) := by
  rcases h with ⟨rfl, rfl, rfl, rfl⟩ | ⟨x, rfl, hlc, hm, hz, hc, hw⟩
  · exact ReadsB.nil w
  · have hlen : (toB (zs.take len)).length = len := by simp [toB]; omega
    refine ⟨some x, cap, by rw [hlen], by omega, by omega, (fun e => by cases e), fun ad he j u hu => ?_⟩
    cases he
    rw [toB_get (fun n hn => hw n (List.mem_of_mem_take hn))] at hu
    have hj : j < len := by
      have := (List.getElem?_eq_some_iff.1 hu).1
      simp at this; omega
    rw [hc j (by omega)]
    simp [List.getElem?_take, hj, show j < zs.length by omega] at hu
    rw [← hu]
    simp [List.getD, show j < zs.length by omega]

theorem and3 (z : Int) (h0 : 0 ≤ z) (h1 : z ≤ 255) : ∃ q : Nat, bits BinOp.and IntKind.u8 z 3 = (q : Int) ∧ q ≤ 3 := by
  obtain ⟨n, rfl⟩ := Int.eq_ofNat_of_zero_le h0
  have : ∀ n : Fin 256, ∃ q : Fin 4, bits BinOp.and IntKind.u8 ((n : Nat) : Int) 3 = ((q : Nat) : Int) := by decide +kernel
  obtain ⟨q, hq⟩ := this ⟨n, by omega⟩
  exact ⟨q, hq, by omega⟩

theorem two_bytes (k : Nat) (z : Int) (hk : k < 256) (h0 : 0 ≤ z) (h1 : z ≤ 255) : bytesV [UInt8.ofNat k, UInt8.ofNat z.toNat] = [.int .u8 (k : Int), .int .u8 z] := by
  simp only [bytesV, List.map_cons, List.map_nil, UInt8.toNat_ofNat']
  congr 2
  · omega
  · congr 1
    omega
theorem reads_two {w : World} {b t : Nat} {c0 c1 : Value} {fr : Nat × Nat} {l : List UInt8} (h : w.heap[b]? = some (.cells #[c0, c1] t fr)) (hc : bytesV l = [c0, c1]) (hl : l.length = 2) : ReadsB w (.slice (some ⟨b, 0, none⟩) 2 2) l := by
  have := reads_lit h l (by rw [hc]) (by omega)
  rwa [hl] at this


/-- A row of bytes that came in, whatever it holds. -/
def RowIn (w : World) (v : Value) : Prop := ∃ a len cap zs, v = .slice a len cap ∧ IsRow8 w a len cap zs

/-- A step that came in: eight cells. -/
structure StepIn (w : World) (p : Addr) (k a kd s q c : Int) (A : Option Addr) (n cp : Nat) (z : List Int) (own : Bool) : Prop where
  c0 : w.cell? p = some (.int .i64 k)
  c1 : w.cell? (p.add 1) = some (.int .u8 a)
  c2 : w.cell? (p.add 2) = some (.int .u8 kd)
  c3 : w.cell? (p.add 3) = some (.int .u8 s)
  c4 : w.cell? (p.add 4) = some (.int .u8 q)
  c5 : w.cell? (p.add 5) = some (.int .u8 c)
  c6 : w.cell? (p.add 6) = some (.slice A n cp)
  c7 : w.cell? (p.add 7) = some (.bool own)
  row : IsRow8 w A n cp z
  num : 0 ≤ s ∧ s ≤ 255

def StepsIn (w : World) (a : Option Addr) (len cap : Nat) : Prop :=
  (a = none ∧ len = 0 ∧ cap = 0) ∨
  ∃ x, a = some x ∧ len ≤ cap ∧ cap ≤ maxLen ∧ ∀ i, i < len → ∃ k a kd s q c A n cp z own, StepIn w (x.add (i * 8)) k a kd s q c A n cp z own

section
variable {H : Type} {enc : TypeId × Value → H} {w : World} {held : Bool}
theorem row_in {fuel : Nat} {cs : List Value} {d : DataW H × List MemPlace} (h : DataW.trod enc Try.prog w 0 (fun _ => true) held fuel 26 cs = some d) :
    ∃ a n c z, cs = [.slice a n c] ∧ IsRow8 w a n c z := by
  rcases open_ints Try.underlying26 Try.underlying5 (by kernel_rfl) h with ⟨hcs, _⟩ | ⟨x, l, c, zs, hcs, _, hl, hm, hz, _, hcell, hwz⟩
  · exact ⟨none, 0, 0, [], hcs, .inl ⟨rfl, rfl, rfl, rfl⟩⟩
  · exact ⟨some x, l, c, zs, hcs, .inr ⟨x, rfl, hl, hm, by simpa using hz, hcell, hwz⟩⟩

theorem frame_in {fuel : Nat} {cs : List Value} {d : DataW H × List MemPlace} (h : DataW.trod enc Try.prog w 0 (fun _ => true) held fuel 30 cs = some d) :
    ∃ a k s q c A n cp z, cs = [.int .u8 a, .int .u8 k, .int .u8 s, .int .u8 q, .int .u8 c, .slice A n cp] ∧ IsRow8 w A n cp z ∧ 0 ≤ s ∧ s ≤ 255 := by
  obtain ⟨xs, m, _, _, hl, hlen, hf⟩ := DataW.trod_struct Try.underlying30 h
  have hc : Try.prog.cellsOf 30 = 6 := by kernel_rfl
  have h5 : Try.prog.cellsOf 5 = 1 := by kernel_rfl
  have h22 : Try.prog.cellsOf 26 = 1 := by kernel_rfl
  rw [hc] at hl
  match cs, hl with
  | [u0, u1, u2, u3, u4, u5], _ =>
    match xs, hlen with
    | [y0, y1, y2, y3, y4, y5], _ =>
      have f0 := hf 0 _ rfl
      have f1 := hf 1 _ rfl
      have f2 := hf 2 _ rfl
      have f3 := hf 3 _ rfl
      have f4 := hf 4 _ rfl
      have f5 := hf 5 _ rfl
      simp [h5, h22] at f0 f1 f2 f3 f4 f5
      obtain ⟨n0, e0, _⟩ := DataW.trod_int Try.underlying5 f0
      obtain ⟨n1, e1, _⟩ := DataW.trod_int Try.underlying5 f1
      obtain ⟨n2, e2, _, w2⟩ := DataW.trod_int Try.underlying5 f2
      obtain ⟨n3, e3, _⟩ := DataW.trod_int Try.underlying5 f3
      obtain ⟨n4, e4, _⟩ := DataW.trod_int Try.underlying5 f4
      obtain ⟨A, n, c, z, e5, hr⟩ := row_in f5
      simp only [List.cons.injEq, and_true] at e0 e1 e2 e3 e4 e5
      have := wf_u8 w2
      exact ⟨n0, n1, n2, n3, n4, A, n, c, z, by rw [e0, e1, e2, e3, e4, e5], hr, this.1, this.2⟩

theorem steps_in {fuel : Nat} {a : Option Addr} {len cap : Nat} {d : DataW H × List MemPlace} (h : DataW.trod enc Try.prog w 0 (fun _ => true) held fuel 34 [.slice a len cap] = some d) :
    StepsIn w a len cap := by
  rcases Deep.open_slice Try.underlying34 h with ⟨hcs, _⟩ | ⟨x, l, c, m, n, D, Pl, hcs, _, hl, hm, hmm, _, hx⟩
  · simp only [List.cons.injEq, and_true, Value.slice.injEq] at hcs
    exact .inl hcs
  · simp only [List.cons.injEq, and_true, Value.slice.injEq] at hcs
    obtain ⟨rfl, rfl, rfl⟩ := hcs
    have hc : Try.prog.cellsOf 39 = 8 := by kernel_rfl
    have h29 : Try.prog.cellsOf 30 = 6 := by kernel_rfl
    have h3 : Try.prog.cellsOf 3 = 1 := by kernel_rfl
    have h4 : Try.prog.cellsOf 4 = 1 := by kernel_rfl
    refine .inr ⟨x, rfl, hl, hm, fun i hi => ?_⟩
    have hi' : i < m := by rw [hmm]; simp; omega
    obtain ⟨cs, h1, h2⟩ := hx i hi'
    rw [hc] at h1
    obtain ⟨_, hlen, hcell⟩ := World.cells?_some h1
    obtain ⟨y0, y1, y2, k, _, _, f0, f1, f2⟩ := Deep.trod_struct3 Try.underlying39 h2
    match cs, hlen with
    | [u0, u1, u2, u3, u4, u5, u6, u7], _ =>
      simp [h29, h3, h4] at f0 f1 f2
      obtain ⟨n0, e0, _⟩ := DataW.trod_int Try.underlying3 f0
      obtain ⟨ad, kd, s, q, c, A, n, cp, z, e1, hr, hs1, hs2⟩ := frame_in f1
      obtain ⟨b, e2, _⟩ := DataW.trod_bool Try.underlying4 f2
      simp only [List.cons.injEq, and_true] at e0 e1 e2
      obtain ⟨g1, g2, g3, g4, g5, g6⟩ := e1
      have c0 := hcell 0 (by omega)
      have c1 := hcell 1 (by omega)
      have c2 := hcell 2 (by omega)
      have c3 := hcell 3 (by omega)
      have c4 := hcell 4 (by omega)
      have c5 := hcell 5 (by omega)
      have c6 := hcell 6 (by omega)
      have c7 := hcell 7 (by omega)
      simp [e0, e2, g1, g2, g3, g4, g5, g6] at c0 c1 c2 c3 c4 c5 c6 c7
      exact ⟨n0, ad, kd, s, q, c, A, n, cp, z, b, ⟨by simpa [Addr.add] using c0, c1, c2, c3, c4, c5, c6, c7, hr, hs1, hs2⟩⟩
end

theorem IsRow8.below {w w1 : World} {B : Nat} {a : Option Addr} {len cap : Nat} {zs : List Int} (h : IsRow8 w a len cap zs) (hb : Below w.heap.size w w1) : IsRow8 w1 a len cap zs := by
  rcases h with h | ⟨x, h1, h2, h3, h4, hc, h5⟩
  · exact .inl h
  · exact .inr ⟨x, h1, h2, h3, h4, fun i hi => (hb.cell (World.block_lt_of_cell? w _ (hc i hi))).trans (hc i hi), h5⟩
theorem StepIn.below {w w1 : World} {p : Addr} {k a kd s q c : Int} {A : Option Addr} {n cp : Nat} {z : List Int} {own : Bool} (h : StepIn w p k a kd s q c A n cp z own) (hb : Below w.heap.size w w1) :
    StepIn w1 p k a kd s q c A n cp z own := by
  have f : ∀ {q v}, w.cell? q = some v → w1.cell? q = some v := fun hc => (hb.cell (World.block_lt_of_cell? w _ hc)).trans hc
  exact ⟨f h.c0, f h.c1, f h.c2, f h.c3, f h.c4, f h.c5, f h.c6, f h.c7, h.row.below hb (B := 0), h.num⟩
theorem IsRow8.cut {w : World} {a : Option Addr} {len cap m : Nat} {zs : List Int} (h : IsRow8 w a len cap zs) (hm : m ≤ len) : IsRow8 w a m cap zs := by
  rcases h with ⟨h1, h2, h3, h4⟩ | ⟨x, h1, h2, h3⟩
  · exact .inl ⟨h1, by omega, h3, h4⟩
  · exact .inr ⟨x, h1, by omega, h3⟩
theorem IsRow8.cap {w : World} {a : Option Addr} {len cap : Nat} {zs : List Int} (h : IsRow8 w a len cap zs) : len ≤ cap ∧ cap ≤ 9223372036854775807 := by
  rcases h with ⟨_, h1, h2, _⟩ | ⟨x, _, h1, h2, _⟩
  · omega
  · unfold maxLen at h2; exact ⟨h1, h2⟩
theorem IsRow8.notIn {w : World} {a : Option Addr} {len cap m c : Nat} {zs : List Int} (h : IsRow8 w a len cap zs) {g : Nat} (hg : w.heap.size ≤ g) : NotIn g (.slice a m c) (toB (zs.take m)) := by
  rintro ad n c' e hl
  injection e with e1 e2 e3
  rcases h with ⟨_, _, _, rfl⟩ | ⟨x, h1, _, _, _, hc, _⟩
  · simp [toB] at hl
  · obtain rfl : x = ad := by simpa [h1] using e1
    have hz : 0 < zs.length := by
      rcases Nat.eq_zero_or_pos zs.length with h0 | h0
      · exact absurd (by simp [toB, List.length_eq_zero_iff.1 h0]) hl
      · exact h0
    have := World.block_lt_of_cell? w _ (hc 0 hz)
    simp only [Addr.add] at this
    intro hb
    simp [hb] at this
    omega
theorem res19 (tmps : Array Value) (W : World) (b : Nat) (c0 c1 c2 c3 c4 c5 : Value) (h2 : tmps.getD 2 undef = .pointer (some ⟨b, 0, none⟩))
    (hb : W.heap[b]? = some (.cells #[c0, c1, c2, c3, c4, c5] 46 (0, 0))) :
    (results Try.f21 tmps).run Try.prog W = .ok (.agg #[c0, c1, c2, c3, c4, c5]) W := by
  obtain ⟨a0, a1, a2, a3, a4, a5⟩ := blk6 hb
  simp only [Array.getD_eq_getD_getElem?] at h2
  simp [results, Try.results21, go_sem, h2, a0, a1, a2, a3, a4, a5]

set_option maxHeartbeats 2000000 in
theorem of_any (w : World) (a k s q c : Int) (v : Value) (b : List UInt8) (h : ReadsB w v b) :
    Calls Try.prog 21 #[.agg #[.int .u8 a, .int .u8 k, .int .u8 s, .int .u8 q, .int .u8 c, v]] w fun e w' =>
      e = .returned (.agg #[.int .u8 a, .int .u8 k, .int .u8 s, .int .u8 q, .int .u8 c, .string ⟨b.toArray⟩]) ∧ Below w.heap.size w w' := by
  have kc : ∀ o o', (convert 26 9 v).run Try.prog ((w.alloc o).alloc o') = .ok (.string ⟨b.toArray⟩) ((w.alloc o).alloc o') := fun o o' => conv_bytes _ _ b (h.below (((Below.refl _ _).alloc (Nat.le_refl _) _).alloc (by simp) _))
  obtain ⟨A, c', rfl, _⟩ := h
  go_enter Try.func21, Try.ntmps21
  go_wp2
  exact bodyPost_ret (res19 _ _ (w.heap.size + 1) (.int .u8 a) (.int .u8 k) (.int .u8 s) (.int .u8 q) (.int .u8 c) (.string ⟨b.toArray⟩) rfl (blk_new' _ _ _ (by simp))) rfl ⟨rfl, ((Below.refl _ _).alloc (Nat.le_refl _) _).alloc (by simp) _⟩
set_option maxRecDepth 100000 in
theorem eq46 (a k s q c : Int) (b : ByteArray) (w : World) :
    (binOp .eql 46 (.agg #[.int .u8 a, .int .u8 k, .int .u8 s, .int .u8 q, .int .u8 c, .string b]) (.agg #[.int .u8 a, .int .u8 k, .int .u8 s, .int .u8 q, .int .u8 c, .string b])).run Try.prog w = .ok (.bool true) w := by
  have hp : Try.prog.stoodInHeld 46 = false := by kernel_rfl
  have ht : Try.prog.underlying 46 = some (.struct (Try.prog.fieldsOf 46)) := by kernel_rfl
  have hf : Try.prog.fieldsOf 46 = #[{ name := "Addr", type := 5, offset := 0, embedded := false, tag := "", pkgPath := "", byteOffset := 0 },
        { name := "Kind", type := 5, offset := 1, embedded := false, tag := "", pkgPath := "", byteOffset := 1 },
        { name := "Session", type := 5, offset := 2, embedded := false, tag := "", pkgPath := "", byteOffset := 2 },
        { name := "Seq", type := 5, offset := 3, embedded := false, tag := "", pkgPath := "", byteOffset := 3 },
        { name := "Ack", type := 5, offset := 4, embedded := false, tag := "", pkgPath := "", byteOffset := 4 },
        { name := "B", type := 9, offset := 5, embedded := false, tag := "", pkgPath := "", byteOffset := 8 }] := by kernel_rfl
  rw [run_eql_struct, show (10000 : Nat) = 9999 + 1 from rfl, run_equalIn_agg w 9999 46 _ _ ht hp, hf]
  have h5 := Try.underlying5
  have h9 := Try.underlying9
  simp only [Op.eqFields]
  go_simp
theorem guard46 (x y : Operand) (xs ys : Array Value) (w : World) : (eqGuard .eql 46 x y (.agg xs) (.agg ys)).run Try.prog w = .ok () w :=
  run_eqGuard_agg w .eql 46 x y xs ys (by kernel_rfl)

/-- A frame that is handed in by value. -/
def FrameV (w : World) (v : Value) : Prop :=
  ∃ a k s q c A n cp z, v = .agg #[.int .u8 a, .int .u8 k, .int .u8 s, .int .u8 q, .int .u8 c, .slice A n cp] ∧ IsRow8 w A n cp z ∧ 0 ≤ s ∧ s ≤ 255

theorem frame_v {H : Type} {enc : TypeId × Value → H} {W : World} {base fuel : Nat} {held : Bool} {v : Value} {d : DataW H × List MemPlace}
    (hv : Value.okWide Try.prog W .any base 30 v) (hf : DataW.trod enc Try.prog W 0 (fun _ => true) held fuel 30 v.cells.toList = some d) : FrameV W v := by
  obtain ⟨cs, rfl, hsz⟩ := okWide_struct Try.underlying30 hv
  obtain ⟨a, k, s, q, c, A, n, cp, z, he, hr, h1, h2⟩ := frame_in hf
  refine ⟨a, k, s, q, c, A, n, cp, z, ?_, hr, h1, h2⟩
  have : cs.toList = [.int .u8 a, .int .u8 k, .int .u8 s, .int .u8 q, .int .u8 c, .slice A n cp] := he
  rw [← Array.toArray_toList (xs := cs), this]
end Go.Proofs.Ytdgbmiobfehpdaa
