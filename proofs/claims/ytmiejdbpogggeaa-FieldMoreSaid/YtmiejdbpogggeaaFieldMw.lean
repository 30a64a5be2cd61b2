import Derived.Test.YtmiejdbpogggeaaPkP
import Derived.Test.YtmiejdbpogggeaaPkO
/- Layer 11 (field): what is known of a law's block while its keys are put in anew. -/
set_option linter.unusedVariables false
set_option linter.unusedSimpArgs false
set_option maxRecDepth 100000
namespace Go.Proofs.Ytmiejdbpogggeaa
open Go.RowKit

/-- What is known of a law's block: its words, its first keys; kv: the keys it has now. -/
structure MoreI (w : World) (bc nm : Bytes) (kn : List NodeL) (g gw B bn : Nat) (kv : Value) (W : World) : Prop where
  below : Below w.heap.size w W
  blk : NodeBlk W bn bc 100 (.slice (some ⟨gw, 0, none⟩) 1 1) true kv
  words : ReadsM W (fun b => 0 ≤ b ∧ b < B) 4 (some ⟨gw, 0, none⟩) 1 (wS nm).cells
  row : KidRow W 0 B g kn
  nums : B ≤ bn ∧ w.heap.size ≤ bn ∧ g < bn
section
variable {w W W' : World} {bc nm : Bytes} {kn : List NodeL} {g gw B bn : Nat} {kv : Value}
theorem MoreI.keep (h : MoreI w bc nm kn g gw B bn kv W) (hb : Below W.heap.size W W') : MoreI w bc nm kn g gw B bn kv W' := by
  have hbl := h.blk.lt
  obtain ⟨h1, h2, h3, h4, h5⟩ := h
  exact ⟨h1.trans (hb.mono h1.size), h2.keep hb, h3.keep (fun _ h => h) (fun q hq => hb.cell (by have := hq.2; omega)), h4.below hb, h5⟩
theorem MoreI.kids (h : MoreI w bc nm kn g gw B bn kv W) (v : Value) : MoreI w bc nm kn g gw B bn v (W.setCell ⟨bn, 4, none⟩ v) := by
  obtain ⟨h1, h2, h3, h4, h5⟩ := h
  exact ⟨h1.setCell (by show w.heap.size ≤ bn; exact h5.2.1) _, h2.skids _, h3.keep (fun _ h => h) (fun q hq => World.cell?_setCell_far _ _ _ _ (by show bn ≠ q.block; have := hq.2; omega)), h4.other (.inr h5.1) (by show bn ≠ g; omega) _, h5⟩
theorem MoreI.other (h : MoreI w bc nm kn g gw B bn kv W) {p : Addr} (hp : bn < p.block) (v : Value) : MoreI w bc nm kn g gw B bn kv (W.setCell p v) := by
  obtain ⟨h1, h2, h3, h4, h5⟩ := h
  exact ⟨h1.setCell (by omega) _, h2.other (by omega) _, h3.keep (fun _ h => h) (fun q hq => World.cell?_setCell_far _ _ _ _ (by have := hq.2; omega)), h4.other (.inr (by omega)) (by omega) _, h5⟩
theorem MoreI.node {g3 m cp : Nat} {l : List NodeL} (h : MoreI w bc nm kn g gw B bn (.slice (some ⟨g3, 0, none⟩) m cp) W) (hr : KidRow W 0 B g3 l) (hm : m = l.length) :
    NodeOk W (· < W.heap.size) (.mk bc 100 [wS nm] true l) [.string ⟨bc.toArray⟩, .int .i64 100, .slice (some ⟨gw, 0, none⟩) 1 1, .bool true, .slice (some ⟨g3, 0, none⟩) m cp] := hr.node 100 h.words hm
/-- The keys laid in a row of the call's own, and put in. -/
theorem MoreI.put {g3 m cp base : Nat} {l : List NodeL} {kcs : List Value} (h : MoreI w bc nm kn g gw B bn kv W) (hb : Below W.heap.size W W') (ho : W'.ownsRow base 25 5 (.slice (some ⟨g3, 0, none⟩) m cp) m kcs) (hbase : W.heap.size ≤ base) (hk : NodesOk W' (fun b => 0 ≤ b ∧ b < B) l kcs) (hm : m = l.length) :
    MoreI w bc nm kn g gw B bn (.slice (some ⟨g3, 0, none⟩) m cp) (W'.setCell ⟨bn, 4, none⟩ (.slice (some ⟨g3, 0, none⟩) m cp)) ∧
    NodeOk (W'.setCell ⟨bn, 4, none⟩ (.slice (some ⟨g3, 0, none⟩) m cp)) (· < (W'.setCell ⟨bn, 4, none⟩ (.slice (some ⟨g3, 0, none⟩) m cp)).heap.size) (.mk bc 100 [wS nm] true l) [.string ⟨bc.toArray⟩, .int .i64 100, .slice (some ⟨gw, 0, none⟩) 1 1, .bool true, .slice (some ⟨g3, 0, none⟩) m cp] := by
  have hbl := h.blk.lt
  have hn := h.nums
  have hrow : KidRow W' 0 B g3 l := KidRow.of_own (own_down (show B ≤ base by omega) ho) hm hk
  have hge := (ho.lt g3 rfl).1
  have hmk := (h.keep hb).kids (.slice (some ⟨g3, 0, none⟩) m cp)
  exact ⟨hmk, hmk.node (hrow.other (.inr hn.1) (by show bn ≠ g3; omega) _) hm⟩
theorem NodesOk.moved {l : List NodeL} {kcs : List Value} {S : Nat} (h : NodesOk W (fun b => 0 ≤ b ∧ b < B) l kcs) (hb : Below S W W') (hB : B ≤ S) : NodesOk W' (fun b => 0 ≤ b ∧ b < B) l kcs :=
  h.keepB (fun _ h => h) (fun b h => hb.block b (Nat.lt_of_lt_of_le h.2 hB))
theorem NodeOk.moved {n : NodeL} {cs : List Value} {S : Nat} (h : NodeOk W (fun b => 0 ≤ b ∧ b < B) n cs) (hb : Below S W W') (hB : B ≤ S) : NodeOk W' (fun b => 0 ≤ b ∧ b < B) n cs :=
  h.keepB (fun _ h => h) (fun b h => hb.block b (Nat.lt_of_lt_of_le h.2 hB))
end
theorem row5z {w : World} {M : Nat → Prop} {n : NodeL} {cs : List Value} (h : NodeOk w M n cs) : ∃ s p A m c b A' m' c', cs = [.string s, .int .i64 p, .slice A m c, .bool b, .slice A' m' c'] := by
  obtain ⟨nm, p, ws, b, ks⟩ := n
  simp only [NodeOk] at h
  obtain ⟨_, _, _, _, _, rfl, _⟩ := h
  exact ⟨_, _, _, _, _, _, _, _, _, rfl⟩
theorem new_node (w : World) (M : Nat → Prop) (nm : Bytes) (p : Int) : NodeOk w M (.mk nm p [] false []) [.string ⟨nm.toArray⟩, .int .i64 p, .slice none 0 0, .bool false, .slice none 0 0] := by
  simp only [NodeOk]
  exact ⟨none, 0, none, 0, [], rfl, fun _ => rfl, fun _ => rfl, ReadsM.nil _ _ _ _, ReadsM.nil _ _ _ _, rfl⟩

end Go.Proofs.Ytmiejdbpogggeaa
