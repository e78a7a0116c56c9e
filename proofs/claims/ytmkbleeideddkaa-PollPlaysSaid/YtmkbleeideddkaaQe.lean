/- What the walk of PollPlays holds. -/
import Derived.Test.YtmkbleeideddkaaQd
import Derived.Laws.AppendOwnNone
set_option linter.unusedVariables false
set_option linter.unusedSimpArgs false
namespace Go.Proofs.Ytmkbleeideddkaa
open Go.RowKit

section
variable {P : Program}
theorem wpList_append_reads {P : Program} {w : World} {ops : Array Oper} {rest : List Oper} {o : Oper} {a : Act} {Q : Exit → Act → World → Prop} (hgd : o.guard = none) (s x : Operand) (t : TypeId)
    (ho : o.op = .call { callee := .builtin .append, args := #[s, x], argTypes := #[t, t] })
    (base : Nat) (e : TypeId) (i : TypeInfo) (ht : P.underlying t = some (.slice e)) (hi : P.info? e = some i) (hz : i.zero = some (.int .u8 0)) (hsize : i.size = 1) (hby : i.bytes = 1)
    (v xv : Value) (xs l : List UInt8) (hs : a.eval s = v) (hown : w.ownsRow base e 1 v xs.length (bytesV xs)) (hx : a.eval x = xv) (hr : ReadsB w xv l)
    (hbytes : xs.length + l.length ≤ 140737488355328) (hbase : base ≤ w.heap.size)
    (h : ∀ v' w', w'.ownsRow base e 1 v' (xs ++ l).length (bytesV (xs ++ l)) → w.grownBy w' v.ownBlock → wpList P ops Q rest (a.put o.dst v') w') : wpList P ops Q (o :: rest) a w := by
  obtain ⟨A, c, rfl, hlc, hl, hnil, hcell⟩ := hr
  cases A with
  | none =>
    obtain ⟨rfl, rfl⟩ := hnil rfl
    exact wpList_append_own_none hgd s x t ho base e i 1 ht hi v xs.length _ hs hown hx (h v w (by simpa using hown) (grown_refl _ _))
  | some ad =>
    exact wpList_append_own w hgd s x t ho base e i (.int .u8 0) 1 1 ht hi hz hsize hby rfl (by decide) v xs.length (bytesV xs) hs hown ad l.length c (bytesV l) hx (by simp [bytesV]) (hcell ad rfl) (bytesV_one l)
      (by unfold maxLen; omega) (by omega) hbase fun v' w' ho' hg' _ => h v' w' (by simpa [bytesV] using ho') hg'
end
/-- A poll and the reference, of one state, whose addresses are AL. -/
structure Plays (w wr : World) (g h : Nat) (rv : Value) (AL : List Int) (P : PS) : Prop where
  be : Below w.heap.size w wr
  po : PollAt wr w.heap.size g P
  re : RefIn wr w.heap.size h rv P
  ad : P.row.map PP.addr = AL
theorem Plays.below {w wr w2 : World} {g h : Nat} {rv : Value} {AL : List Int} {P : PS} (t : Plays w wr g h rv AL P) (hb : Below wr.heap.size wr w2) : Plays w w2 g h rv AL P :=
  ⟨t.be.trans (hb.mono t.be.size), t.po.below hb, t.re.below hb, t.ad⟩
/-- Half a step: the poll goes, then the reference. -/
structure Half (w wr : World) (g h : Nat) (rv : Value) (AL : List Int) (P P' : PS) : Prop where
  be : Below w.heap.size w wr
  po : PollAt wr w.heap.size g P'
  re : RefIn wr w.heap.size h rv P
  ad : P'.row.map PP.addr = AL
theorem Plays.poll {w wr w2 : World} {g h : Nat} {rv : Value} {AL : List Int} {P P' : PS} (t : Plays w wr g h rv AL P) (k : Kept w.heap.size [54, 58] wr w2) (hp : PollAt w2 w.heap.size g P') (ha : P'.row.map PP.addr = P.row.map PP.addr) : Half w w2 g h rv AL P P' :=
  ⟨t.be.trans (k.below t.be.size), hp, t.re.kept k (by decide) (by decide), ha.trans t.ad⟩
theorem Half.ref {w wr w2 : World} {g h : Nat} {rv : Value} {AL : List Int} {P P' : PS} (t : Half w wr g h rv AL P P') (k : Kept w.heap.size [40, 42] wr w2) (hr : RefIn w2 w.heap.size h rv P') : Plays w w2 g h rv AL P' :=
  ⟨t.be.trans (k.below t.be.size), t.po.kept k (by decide) (by decide) (by decide), hr, t.ad⟩
theorem BoxAt.kept {w w2 : World} {B bx : Nat} {kd y now : Int} {ts : List TypeId} (h : BoxAt w bx kd y now) (k : Kept B ts w w2) (ht : 30 ∉ ts) : BoxAt w2 bx kd y now := k.blk h ht
structure PlayZ (w wr : World) (g h : Nat) (rv : Value) (AL : List Int) (P : PS) (x : Value) (n : Nat) : Prop where
  s : Plays w wr g h rv AL P
  z : RowZ wr w.heap.size x n
theorem PlayZ.at {w wr : World} {g h n : Nat} {rv x : Value} {AL : List Int} {P : PS} (t : PlayZ w wr g h rv AL P x n) {k : Nat} (hk : k < n) :
    ∃ b c z, x = .slice (some ⟨b, 0, none⟩) n c ∧ n ≤ c ∧ c ≤ 9223372036854775807 ∧ wr.cell? ⟨b, k, none⟩ = some z ∧ wr.frozen? ⟨b, k, none⟩ = false ∧ ∀ u, PlayZ w (wr.setCell ⟨b, k, none⟩ u) g h rv AL P x n := by
  rcases t.z with ⟨_, h0⟩ | ⟨b, c, cs, rfl, hb, h1, h2, h3, h4⟩
  · omega
  · refine ⟨b, c, cs[k]'(by omega), rfl, h1, h2, ?_, blk_frozen h3 k, fun u => ?_⟩
    · rw [blk_cell h3 k]
      exact Array.getElem?_eq_getElem _
    · have k5 : Kept w.heap.size [5] wr (wr.setCell ⟨b, k, none⟩ u) := Kept.of_grown (grown_set (grown_refl _ _) _ _) h3 (by simp) hb
      exact ⟨⟨t.s.be.trans (k5.below t.s.be.size), t.s.po.kept k5 (by decide) (by decide) (by decide), t.s.re.kept k5 (by decide) (by decide), t.s.ad⟩, .inr ⟨b, c, _, rfl, hb, h1, h2, blk_set h3 k u, by simpa using h4⟩⟩
theorem RowZ.below {w w1 : World} {C n : Nat} {v : Value} (h : RowZ w C v n) (hb : Below w.heap.size w w1) : RowZ w1 C v n := by
  rcases h with h | ⟨b, c, cs, h1, h2, h3, h4, h5, h6⟩
  · exact .inl h
  · exact .inr ⟨b, c, cs, h1, h2, h3, h4, blk_below' h5 hb, h6⟩
/-- Behind: the row of the addresses. -/
structure PlayE (w wr : World) (g h : Nat) (rv : Value) (AL : List Int) (P : PS) (va : Value) : Prop where
  s : Plays w wr g h rv AL P
  al : wr.ownsRow w.heap.size 5 1 va P.row.length (addrV P.row)
theorem PlayE.below {w wr w2 : World} {g h : Nat} {rv va : Value} {AL : List Int} {P : PS} (t : PlayE w wr g h rv AL P va) (hb : Below wr.heap.size wr w2) : PlayE w w2 g h rv AL P va := ⟨t.s.below hb, own_below t.al hb⟩
end Go.Proofs.Ytmkbleeideddkaa
