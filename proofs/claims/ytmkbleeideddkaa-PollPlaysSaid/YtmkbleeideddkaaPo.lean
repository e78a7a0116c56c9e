/- Plain laws of PollDead. -/
import Derived.Test.YtmkbleeideddkaaPl
set_option linter.unusedVariables false
set_option linter.unusedSimpArgs false
namespace Go.Proofs.Ytmkbleeideddkaa
open Go.RowKit

/-- The first i of them are dead, each since its time. -/
def rowD (L : List PP) (i : Nat) (s : Nat → Nat) : List PP := L.mapIdx fun j p => if j < i then deadP (s j : Int) p else p
theorem rowD_get (L : List PP) (i : Nat) (s : Nat → Nat) (j : Nat) : (rowD L i s)[j]? = (L[j]?).map fun p => if j < i then deadP (s j : Int) p else p := by
  unfold rowD
  rw [List.getElem?_mapIdx]
theorem rowD_len (L : List PP) (i : Nat) (s : Nat → Nat) : (rowD L i s).length = L.length := by unfold rowD; simp
theorem rowD_addr (L : List PP) (i : Nat) (s : Nat → Nat) : (rowD L i s).map PP.addr = L.map PP.addr := by
  apply List.ext_getElem?
  intro j
  simp only [List.getElem?_map, rowD_get]
  cases L[j]? with
  | none => rfl
  | some p =>
    simp only [Option.map_some]
    split <;> rfl
theorem rowD_zero (L : List PP) (s : Nat → Nat) : rowD L 0 s = L := by
  apply List.ext_getElem?
  intro j
  rw [rowD_get]
  cases L[j]? <;> simp
theorem rowD_congr {L : List PP} {i : Nat} {s s' : Nat → Nat} (h : ∀ j, j < i → j < L.length → s j = s' j) : rowD L i s = rowD L i s' := by
  apply List.ext_getElem?
  intro j
  simp only [rowD_get]
  cases hj : L[j]? with
  | none => rfl
  | some p =>
    simp only [Option.map_some]
    by_cases hi : j < i
    · rw [if_pos hi, if_pos hi, h j hi (List.getElem?_eq_some_iff.1 hj).1]
    · rw [if_neg hi, if_neg hi]
theorem rowD_step (L : List PP) (i : Nat) (s : Nat → Nat) : (rowD L i s).modify i (deadP (s i : Int)) = rowD L (i + 1) s := by
  apply List.ext_getElem?
  intro j
  by_cases hij : i = j
  · subst hij
    rw [List.getElem?_modify, rowD_get, rowD_get]
    cases L[i]? <;> simp
  · rw [modify_ne _ _ _ _ hij, rowD_get, rowD_get]
    cases L[j]? with
    | none => rfl
    | some p =>
      simp only [Option.map_some]
      by_cases hi : j < i
      · rw [if_pos hi, if_pos (by omega)]
      · rw [if_neg hi, if_neg (by omega)]
theorem rowD_at {L : List PP} {i : Nat} {p : PP} {n : Nat} {s : Nat → Nat} (h : L[i]? = some p) (hn : i < n) : (rowD L n s)[i]? = some (deadP (s i : Int) p) := by
  rw [rowD_get, h]
  simp [hn]
theorem rowD_all {L : List PP} {s : Nat → Nat} {j : Nat} {q : PP} (h : (rowD L L.length s)[j]? = some q) : j < L.length ∧ q.dead = true ∧ q.since = (s j : Int) := by
  have hj := (List.getElem?_eq_some_iff.1 h).1
  rw [rowD_len] at hj
  rw [rowD_get, List.getElem?_eq_getElem hj] at h
  simp only [Option.map_some, if_pos hj] at h
  cases h
  exact ⟨hj, rfl, rfl⟩
theorem rowD_upd {L : List PP} {i k : Nat} {s : Nat → Nat} (hi : i < L.length) : ((rowD L L.length s).modify i fun p => { p with since := (k : Int) }) = rowD L L.length fun j => if j = i then k else s j := by
  apply List.ext_getElem?
  intro j
  by_cases hij : i = j
  · subst hij
    rw [List.getElem?_modify, rowD_get, rowD_get]
    cases L[i]? with
    | none => rfl
    | some p => simp [hi, deadP]
  · rw [modify_ne _ _ _ _ hij, rowD_get, rowD_get, if_neg (fun e => hij e.symm)]
theorem rowD_none {L : List PP} {k : Nat} {s : Nat → Nat} (h : ∀ j, j < L.length → k < s j + 20) : PS.next ⟨rowD L L.length s, 0⟩ (k : Int) = (0, false, ⟨rowD L L.length s, 0⟩) := by
  have hd : ∀ p ∈ rowD L L.length s, dueB p (k : Int) = false := by
    intro q hq
    obtain ⟨j, hj, rfl⟩ := List.getElem_of_mem hq
    obtain ⟨h1, h2, h3⟩ := rowD_all (List.getElem?_eq_getElem hj)
    unfold dueB
    rw [h2, h3]
    have := h j h1
    simp
    omega
  have hn : ownF (rowD L L.length s) = [] := own_nil fun x p hp => (rowD_all hp).2.1
  rcases next_alive ⟨rowD L L.length s, 0⟩ (k : Int) hd (Nat.zero_le _) with ⟨h1, h2⟩ | ⟨x, t', h1, h2, h3, h4, h5⟩
  · exact h2
  · exact absurd hn h1
theorem rowD_due {L : List PP} {i k : Nat} {p : PP} {s : Nat → Nat} (hp : L[i]? = some p) (hs : s i + 20 = k) (hlo : ∀ j, j < L.length → k ≤ s j + 20) (hlt : ∀ j, j < i → k < s j + 20) :
    PS.next ⟨rowD L L.length s, 0⟩ (k : Int) = (p.addr, true, ⟨rowD L L.length (fun j => if j = i then k else s j), 0⟩) := by
  have hi := (List.getElem?_eq_some_iff.1 hp).1
  have hat := rowD_at (n := L.length) (s := s) hp hi
  have hd : dueB (deadP (s i : Int) p) (k : Int) = true := by
    unfold dueB deadP
    simp
    omega
  have hb : bestF (rowD L L.length s) (k : Int) (rowD L L.length s).length = some i := by
    refine (bestF_is hat hd (fun j q hq hdq => ?_) _).2 (by rw [rowD_len]; exact hi)
    obtain ⟨h1, h2, h3⟩ := rowD_all hq
    unfold dueB at hdq
    rw [h2, h3] at hdq
    simp only [Bool.true_and, Bool.and_eq_true, decide_eq_true_eq] at hdq
    have h4 := hlo j h1
    refine ⟨fun hji => ?_, ?_⟩
    · have := hlt j hji
      omega
    · show (s i : Int) ≤ q.since
      rw [h3]
      omega
  unfold PS.next
  rw [hb]
  simp only []
  rw [addrAt_of hat, rowD_upd hi]
  rfl
/-- When it was told last, or died: ahead of the tick k. -/
def sinceD (d k : Nat) : Nat := d + 20 * ((k - 1 - d) / 20)
def sK (D : Nat → Nat) (k i j : Nat) : Nat := if j < i then sinceD (D j) (k + 1) else sinceD (D j) k
theorem sinceD_skip {d k : Nat} (hd : d ≤ k) (h : k = d ∨ (k - d) % 20 ≠ 0) : sinceD d (k + 1) = sinceD d k := by
  unfold sinceD
  omega
theorem sinceD_hit {d k : Nat} (hd : d ≤ k) (h : k ≠ d) (h2 : (k - d) % 20 = 0) : sinceD d k + 20 = k ∧ sinceD d (k + 1) = k := by
  unfold sinceD
  omega
theorem sinceD_lo {d k : Nat} (hd : d ≤ k) : k ≤ sinceD d k + 20 ∧ k < sinceD d (k + 1) + 20 := by
  unfold sinceD
  omega
theorem sK_skip {D : Nat → Nat} {k i : Nat} {L : List PP} (hd : D i ≤ k) (h : k = D i ∨ (k - D i) % 20 ≠ 0) : rowD L L.length (sK D k (i + 1)) = rowD L L.length (sK D k i) :=
  rowD_congr fun j _ _ => by
    unfold sK
    by_cases h1 : j < i
    · rw [if_pos (by omega), if_pos h1]
    · by_cases h2 : j = i
      · subst h2
        rw [if_pos (by omega), if_neg (by omega)]
        exact sinceD_skip hd h
      · rw [if_neg (by omega), if_neg h1]
theorem sK_hit {D : Nat → Nat} {k i : Nat} {L : List PP} {p : PP} (hp : L[i]? = some p) (hd : ∀ j, j < L.length → D j ≤ k) (h : k ≠ D i) (h2 : (k - D i) % 20 = 0) :
    PS.next ⟨rowD L L.length (sK D k i), 0⟩ (k : Int) = (p.addr, true, ⟨rowD L L.length (sK D k (i + 1)), 0⟩) := by
  have hi := (List.getElem?_eq_some_iff.1 hp).1
  obtain ⟨h3, h4⟩ := sinceD_hit (hd i hi) h h2
  have hs : sK D k i i + 20 = k := by unfold sK; rw [if_neg (by omega)]; exact h3
  rw [rowD_due hp hs (fun j hj => ?_) (fun j hj => ?_)]
  · rw [rowD_congr (s' := sK D k (i + 1)) fun j _ hj => ?_]
    unfold sK
    by_cases h5 : j = i
    · subst h5
      rw [if_pos rfl, if_pos (by omega)]
      exact h4.symm
    · rw [if_neg h5]
      by_cases h6 : j < i
      · rw [if_pos h6, if_pos (by omega)]
      · rw [if_neg h6, if_neg (by omega)]
  · have := sinceD_lo (hd j hj)
    unfold sK
    split <;> omega
  · have := sinceD_lo (hd j (by omega))
    unfold sK
    rw [if_pos hj]
    omega
theorem sK_none {D : Nat → Nat} {k : Nat} {L : List PP} (hd : ∀ j, j < L.length → D j ≤ k) : PS.next ⟨rowD L L.length (sK D k L.length), 0⟩ (k : Int) = (0, false, ⟨rowD L L.length (sK D k L.length), 0⟩) :=
  rowD_none fun j hj => by
    have := sinceD_lo (hd j hj)
    unfold sK
    rw [if_pos hj]
    omega
theorem sK_next (D : Nat → Nat) (k : Nat) (L : List PP) : rowD L L.length (sK D k L.length) = rowD L L.length (sK D (k + 1) 0) :=
  rowD_congr fun j _ hj => by
    unfold sK
    rw [if_pos hj, if_neg (by omega)]
/-- The time, as the gaps add up. -/
def nowG (gap : Nat → Nat) : Nat → Nat
  | 0 => 0
  | k + 1 => nowG gap k + gap k
def diedG (gap : Nat → Nat) (j : Nat) : Nat := nowG gap (j + 1)
theorem nowG_le {gap : Nat → Nat} (h : ∀ i, gap i ≤ 3) {a : Nat} : ∀ b, a ≤ b → nowG gap a ≤ nowG gap b ∧ nowG gap b ≤ nowG gap a + 3 * (b - a) := by
  intro b
  induction b with
  | zero => intro hab; obtain rfl : a = 0 := by omega
            exact ⟨Nat.le_refl _, by omega⟩
  | succ b ih =>
    intro hab
    by_cases he : a = b + 1
    · subst he
      exact ⟨Nat.le_refl _, by omega⟩
    · have h1 := ih (by omega)
      have h2 := h b
      simp only [nowG]
      omega
theorem died_start {gap : Nat → Nat} (h : ∀ i, gap i ≤ 3) {L : List PP} (hl : L.length ≤ 6) : rowD L L.length (diedG gap) = rowD L L.length (sK (diedG gap) (nowG gap L.length) 0) :=
  rowD_congr fun j _ hj => by
    have := nowG_le h (a := j + 1) L.length (by omega)
    unfold sK sinceD diedG
    rw [if_neg (by omega)]
    omega
theorem died_le {gap : Nat → Nat} (h : ∀ i, gap i ≤ 3) {n j k : Nat} (hj : j < n) (hk : nowG gap n ≤ k) : diedG gap j ≤ k := by
  have := nowG_le h (a := j + 1) n (by omega)
  unfold diedG
  omega
/-- A byte of a row that came in. -/
theorem bytes_fun {w : World} {a : Option Addr} {len cap : Nat} {z : List Int} (h : IsRow8 w a len cap z) : len ≤ 9223372036854775807 ∧ (a = none → len = 0) ∧
    ∃ f : Nat → Nat, (∀ i, f i ≤ 255) ∧ ∀ w1, Below w.heap.size w w1 → ∀ x, a = some x → ∀ i, i < len → w1.cell? (x.add i) = some (.int .u8 (f i : Nat)) := by
  have hcap := h.cap
  rcases h with ⟨rfl, h1, h2, h3⟩ | ⟨x, rfl, h1, h2, h3, h4, h5⟩
  · exact ⟨by omega, fun _ => h1, fun _ => 0, fun _ => Nat.zero_le _, fun _ _ x hx => by cases hx⟩
  · refine ⟨by omega, fun e => (by cases e), fun i => if hi : i < z.length then (z[i]).toNat else 0, fun i => ?_, fun w1 hb x' hx i hi => ?_⟩
    · simp only []
      split
      · rename_i hi
        have := wf_u8 (h5 _ (List.getElem_mem hi))
        omega
      · omega
    · cases hx
      have hiz : i < z.length := by omega
      have h6 := wf_u8 (h5 _ (List.getElem_mem hiz))
      have h7 := h4 i hiz
      rw [show z.getD i 0 = z[i] by simp [List.getD, hiz]] at h7
      simp only [dif_pos hiz]
      rw [show ((z[i].toNat : Nat) : Int) = z[i] by omega]
      exact (hb.cell (World.block_lt_of_cell? w _ h7)).trans h7
theorem Try.info3 : (Try.prog.info? 3).map (fun i => (i.zero, i.size, i.bytes)) = some (some (.int .i64 0), 1, 8) := by kernel_rfl
def diedV (gap : Nat → Nat) (k : Nat) : List Value := (List.range k).map fun j => .int .i64 (diedG gap j : Nat)
theorem diedV_len (gap : Nat → Nat) (k : Nat) : (diedV gap k).length = k := by unfold diedV; simp
theorem diedV_succ (gap : Nat → Nat) (k : Nat) : diedV gap (k + 1) = diedV gap k ++ [.int .i64 (diedG gap k : Nat)] := by unfold diedV; rw [List.range_succ]; simp
theorem diedV_get (gap : Nat → Nat) {k j : Nat} (h : j < k) : (diedV gap k)[j]? = some (.int .i64 (diedG gap j : Nat)) := by unfold diedV; simp [h]
/-- A poll, the row of its addresses, and the times at which they died. -/
structure TDie (w wr : World) (g : Nat) (va : Value) (L : List PP) (P : PS) (C : Nat) (vo : Value) (n : Nat) (xs : List Value) : Prop where
  pa : PAll w wr g va L P
  ow : wr.ownsRow C 3 1 vo n xs
  ge : w.heap.size ≤ C
  sz : C ≤ wr.heap.size
  lo : ∀ b, va.ownBlock = some b → b < C
theorem TDie.kept {w wr w2 : World} {g C n : Nat} {va vo : Value} {L : List PP} {P P' : PS} {xs : List Value} (h : TDie w wr g va L P C vo n xs) (k : Kept w.heap.size [54, 58] wr w2) (hp : PollAt w2 w.heap.size g P') : TDie w w2 g va L P' C vo n xs :=
  ⟨h.pa.kept k hp, own_kept h.ow k (by decide), h.ge, Nat.le_trans h.sz k.size, h.lo⟩
theorem TDie.below {w wr w2 : World} {g C n : Nat} {va vo : Value} {L : List PP} {P : PS} {xs : List Value} (h : TDie w wr g va L P C vo n xs) (hb : Below wr.heap.size wr w2) : TDie w w2 g va L P C vo n xs :=
  ⟨h.pa.below hb, own_below h.ow hb, h.ge, Nat.le_trans h.sz hb.size, h.lo⟩
theorem TDie.push {w wr w2 : World} {g C n n2 : Nat} {va vo v2 : Value} {L : List PP} {P : PS} {xs ys : List Value} (h : TDie w wr g va L P C vo n xs) (hg : wr.grownBy w2 vo.ownBlock) (ho : w2.ownsRow C 3 1 v2 n2 ys) : TDie w w2 g va L P C v2 n2 ys := by
  have hk : Kept C [3] wr w2 := Kept.of_row hg (off_of_own h.ow) (by decide)
  exact ⟨⟨h.pa.be.trans ((hk.below h.sz).mono h.ge), h.pa.po.kept hk (by decide) (by decide) (by decide), own_keep h.pa.al fun k hkk => hk.block k (own_lt h.pa.al k hkk).2 (.inl (h.lo k hkk))⟩, ho, h.ge, Nat.le_trans h.sz hk.size, h.lo⟩
end Go.Proofs.Ytmkbleeideddkaa
