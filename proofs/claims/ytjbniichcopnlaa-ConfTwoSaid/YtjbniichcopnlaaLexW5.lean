/- Layer 8 (lex): the walk of the program's Cut. -/
import Derived.Test.YtjbniichcopnlaaLexW4
import Derived.Test.YtjbniichcopnlaaWords
namespace Go.Proofs.Ytjbniichcopnlaa
open Go.RowKit

/-- A token's cells. -/
def Tok.cells (t : Tok) : List Value := [.int .i64 t.kind, .int .i64 t.pos, .int .i64 t.n, .string ⟨t.s.toArray⟩]
theorem info_tok : (Try.prog.info? 58).map (fun i => (i.zero, i.size, i.bytes)) = some (some (.agg #[.int .i64 0, .int .i64 0, .int .i64 0, .string ⟨#[]⟩]), 4, 40) := by kernel_rfl

theorem cells_length (l : List Tok) : (l.flatMap Tok.cells).length = l.length * 4 := by
  induction l with
  | nil => rfl
  | cons t l ih => simp only [List.flatMap_cons, List.length_append, ih, List.length_cons, Tok.cells, List.length_nil]; omega

/-- The slice value v reads, in a row from 'base' on, as the tokens l. -/
def OwnToks (w : World) (base : Nat) (v : Value) (l : List Tok) : Prop := w.ownsRow base 58 4 v l.length (l.flatMap Tok.cells)

/-- What Cut leaves. -/
def CutPost (w : World) (r : CutRes) (e : Ending) (w' : World) : Prop :=
  ∃ v, e = .returned (.tuple #[v, .int .i64 r.pos, .int .i64 r.err]) ∧ OwnToks w' w.heap.size v r.toks ∧ Below w.heap.size w w'

/-- What holds ahead of each round: what is known of what was cut so far. -/
def CutI (s : ByteArray) (w : World) (k : Nat) (v : Value) (acc : List Tok) (wr : World) : Prop :=
  k ≤ s.size ∧ acc.length ≤ k ∧ OwnToks wr w.heap.size v acc ∧ Below w.heap.size w wr ∧ freeM false (s.data.toList.drop k) = 0 ∧
    cutM false 0 0 0 s.data.toList = (cutM false 0 k acc.length (s.data.toList.drop k)).pre acc

theorem lex_token' (s : ByteArray) (cnt : Nat) (w : World) (h0 : 0 < s.size) (hs : s.size ≤ maxLen) (K N E : Int) (L : Nat) (S : Bytes) (ht : tokenL s.data.toList cnt = (⟨K, 0, N, S⟩, L, E)) :
    Calls Try.prog 37 #[.string s, .int .i64 cnt] w fun e w' => e = .returned (.tuple #[.agg #[.int .i64 K, .int .i64 0, .int .i64 N, .string ⟨S.toArray⟩], .int .i64 L, .int .i64 E]) ∧ Below w.heap.size w w' := by
  have := lex_token s cnt w h0 hs
  rw [ht] at this
  exact this

set_option maxRecDepth 100000 in
set_option maxHeartbeats 2000000 in
theorem lex_Cut (s : ByteArray) (w : World) (hs : s.size ≤ maxLen) :
    Calls Try.prog 20 #[.string s] w (CutPost w (cutL s.data.toList)) := by
  have hs' := hs
  unfold maxLen at hs'
  have hcut : cutL s.data.toList = if s.size > 65536 then ⟨[], 0, 6⟩ else cutM false 0 0 0 s.data.toList := by unfold cutL; rw [ba_len]
  have HC := Lib.hid hcut
  clear hcut
  by_cases hbig : s.size > 65536
  · go_enter Try.func20, Try.ntmps20
    go_wp2
    go_ret3
    refine ⟨.slice none 0 0, ?_, ?_, ?_⟩
    · rw [HC.out, if_pos hbig]; rfl
    · rw [HC.out, if_pos hbig]; exact World.ownsRow_nil _ _ _ _
    · exact Below.refl _ _
  · obtain ⟨i0, hi, hz0, hz1, hz2⟩ := info_parts info_tok
    have hfl := freeM_le false s.data.toList
    rw [ba_len] at hfl
    have hff := freeM_free false s.data.toList
    have hfc := cutM_free false 0 0 s.data.toList
    rw [Nat.zero_add] at hfc
    have hfree := lex_free s w hs
    generalize freeM false s.data.toList = f0 at *
    have HF := Lib.hid hff
    have HF2 := Lib.hid hfc
    have HF3 := Lib.hid hfree
    clear hff hfc hfree
    go_enter Try.func20, Try.ntmps20
    go_wp2_with fail
    refine HF3.out.mono ?_
    rintro e w' ⟨rfl, rfl⟩
    go_wp2_with fail
    go_loopw [5, 6] (fun v i wr => ∃ (k : Nat) (acc : List Tok), i = .int .i64 k ∧ CutI s w k v acc wr) (fun _ i _ => s.size - (intOf i).toNat)
    case atStart => exact ⟨f0, [], rfl, hfl, Nat.zero_le _, World.ownsRow_nil _ _ _ _, Below.refl _ _, HF.out, by rw [HF2.out, cutM_pre_nil]; rfl⟩
    case round =>
      obtain ⟨k, acc, rfl, hk, hak, hown, hB, hfr, hcm⟩ := hrel
      obtain ⟨A, c, rfl, hnc⟩ := own_form hown
      have hbs := hB.size
      by_cases hlt : k < s.size
      · have hne : s.data.toList.drop k ≠ [] := by rw [ba_drop_cons s k hlt]; simp
        have hst := cutM_tok k acc.length _ hne hfr
        obtain ⟨hlen, hL1, hP⟩ := tokenL_len _ acc.length hne
        rw [List.length_drop, ba_len] at hlen
        have htok := fun K N E L S => lex_token' (s.extract k s.size) acc.length wr (by simp; omega) (by simp; omega) K N E L S
        rw [ba_from] at htok
        obtain ⟨⟨⟨K, p, N, S⟩, L, E⟩, hT⟩ : ∃ T, T = tokenL (s.data.toList.drop k) acc.length := ⟨_, rfl⟩
        rw [← hT] at hst hlen hL1 hP
        simp only at hP hst hlen hL1
        subst hP
        have htok' := htok K N E L S hT.symm
        have HTOK := Lib.hid htok'
        clear htok htok' hT hne hfr
        by_cases hE : E = 0
        · rw [if_neg (by simp [hE])] at hst
          have hL := hL1 hE
          subst hE
          rw [hst, CutRes.pre_cons] at hcm
          have HM := Lib.hid hcm
          have hfr2 := fun w => lex_free (s.extract (k + L) s.size) w (by simp; omega)
          rw [ba_from] at hfr2
          have hfl2 := freeM_le false (s.data.toList.drop (k + L))
          rw [List.length_drop, ba_len] at hfl2
          have hf0 := freeM_free false (s.data.toList.drop (k + L))
          have hfc2 := cutM_free false (k + L) (acc.length + 1) (s.data.toList.drop (k + L))
          rw [List.drop_drop] at hf0 hfc2
          generalize freeM false (s.data.toList.drop (k + L)) = f1 at *
          have HFR := Lib.hid hfr2
          have HF0 := Lib.hid hf0
          have HFC := Lib.hid hfc2
          clear hcm hst hL1 hfr2 hf0 hfc2
          go_wp2_with fail
          refine HTOK.out.mono ?_
          rintro e w2 ⟨rfl, hb2⟩
          have hown2 := own_below (show wr.ownsRow _ _ _ _ _ _ from hown) hb2
          have hsz2 := hb2.size
          go_wp2_with (first | (at_builtin; refine wpList_append_own _ rfl _ _ 48 rfl w.heap.size 58 i0 _ 4 40 Try.underlying48 hi hz0 hz1 hz2 rfl (by decide) _ _ _ rfl ((hown2.alloc _).alloc _) ⟨w2.heap.size + 1, 0, none⟩ 1 1 [.int .i64 K, .int .i64 k, .int .i64 N, .string ⟨S.toArray⟩] rfl rfl (cells_new _ [.int .i64 K, .int .i64 k, .int .i64 N, .string ⟨S.toArray⟩] _ _ (by simp)) (fun x hx => by simp at hx; rcases hx with rfl | rfl | rfl | rfl <;> rfl) (by unfold maxLen; omega) (by omega) (by simp; omega) ?_; intro v' w3 hown3 hgrow3 _))
          refine (HFR.out _).mono ?_
          rintro e w4 ⟨rfl, rfl⟩
          have hB3 : Below w.heap.size w w3 := by
            refine below_own ?_ hgrow3 (by simp; omega) ((hown2.alloc _).alloc _) (Nat.le_refl _)
            exact ((hB.trans (hb2.mono hbs)).alloc (by omega) _).alloc (by simp; omega) _
          have hown4 : OwnToks w3 w.heap.size v' (acc ++ [⟨K, k, N, S⟩]) := by
            unfold OwnToks
            rw [List.length_append, List.flatMap_append]
            exact hown3
          clear hgrow3 hown3 hown2 hown
          go_wp2
          go_roundw
          case rel =>
            refine ⟨k + L + f1, acc ++ [⟨K, k, N, S⟩], by go_num, by omega, by rw [List.length_append]; simp; omega, hown4, hB3, HF0.out, ?_⟩
            rw [HM.out, List.drop_drop, HFC.out, List.length_append]
            rfl
          case measure => simp [intOf]; omega
        · rw [if_pos (by simpa using hE)] at hst
          rw [hst] at hcm
          have hE0 : (E == 0) = false := by simpa using hE
          have HM := Lib.hid hcm
          clear hcm hst hL1
          go_wp2_with fail
          refine HTOK.out.mono ?_
          rintro e w2 ⟨rfl, hb2⟩
          go_wp2_with fail
          go_ret3
          refine ⟨.slice none 0 0, ?_, ?_, ?_⟩
          · rw [HC.out, if_neg hbig, HM.out]; simp [CutRes.pre, hE]
          · rw [HC.out, if_neg hbig, HM.out]; simp [CutRes.pre, hE]; exact World.ownsRow_nil _ _ _ _
          · have hsz2 := hb2.size
            exact (hB.trans (hb2.mono hbs)).alloc (by omega) _
      · have hkk : k = s.size := by omega
        rw [ba_drop_nil s k (by omega), cutM_nil] at hcm
        have HM := Lib.hid hcm
        clear hcm hfr hkk
        go_wp2_with fail
        go_ret3
        refine ⟨.slice A acc.length c, ?_, ?_, hB⟩
        · rw [HC.out, if_neg hbig, HM.out]; rfl
        · rw [HC.out, if_neg hbig, HM.out]; simpa [CutRes.pre] using hown

end Go.Proofs.Ytjbniichcopnlaa
