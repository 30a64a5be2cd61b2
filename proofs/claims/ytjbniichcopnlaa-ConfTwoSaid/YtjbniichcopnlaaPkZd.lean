import Derived.Test.YtjbniichcopnlaaTreeSpec
import Derived.Test.YtjbniichcopnlaaPkZc
import Derived.Test.YtjbniichcopnlaaTreeLaw
import Derived.Test.YtjbniichcopnlaaTreeR0
import Derived.Test.YtjbniichcopnlaaWords
import Derived.Deep.QuietTactic
import Derived.Below
import Derived.ChangeSame
import Derived.ProofKit
import Derived.WideKeyArgs
import Derived.OpenVars
import Derived.OpenShut
import Derived.ShutString
section
/- Items without their places, in plain Lean. -/
namespace Go.Proofs.Ytjbniichcopnlaa

/-! ### Items without their places -/
def zW (w : WordL) : WordL := { w with pos := 0 }
mutual
def zN : NodeL → NodeL
  | .mk nm _ ws b ks => .mk nm 0 (ws.map zW) b (zNs ks)
def zNs : List NodeL → List NodeL
  | [] => []
  | n :: r => zN n :: zNs r
end
theorem zNs_append : ∀ l m : List NodeL, zNs (l ++ m) = zNs l ++ zNs m
  | [], m => rfl
  | n :: r, m => by simp only [List.cons_append, zNs, zNs_append r m]
theorem zNs_len : ∀ l : List NodeL, (zNs l).length = l.length
  | [] => rfl
  | n :: r => by simp only [zNs, List.length_cons, zNs_len r]
theorem words_okz (ws : List WordL) : (ws.map zW).all wordOk = ws.all wordOk := by
  induction ws with
  | nil => rfl
  | cons w r ih =>
    simp only [List.map_cons, List.all_cons]
    rw [ih]; rfl
mutual
theorem check_zN : ∀ (n : NodeL) (d : Nat), checkN d (zN n) = checkN d n
  | .mk nm p ws b ks, d => by simp only [zN, checkN, words_okz ws, List.length_map, zNs_len, check_z ks (d + 1)]
theorem check_z : ∀ (l : List NodeL) (d : Nat), checkL d (zNs l) = checkL d l
  | [], _ => rfl
  | n :: r, d => by simp only [zNs, checkL, check_zN n d, check_z r d]
end

end Go.Proofs.Ytjbniichcopnlaa
end

section
/- Layer 12 (conf), in plain Lean: what an item says does not lie in its places; where what is wrong is told. -/
namespace Go.Proofs.Ytjbniichcopnlaa

/-! ### Items without their places are read the same -/
theorem place_z (l : List Bytes) (w : WordL) : placeW l (zW w) = placeW l w := rfl
theorem head_z (ws : List WordL) : (ws.map zW).headD ⟨false, 0, [], 0⟩ = zW (ws.headD ⟨false, 0, [], 0⟩) := by cases ws <;> rfl
theorem get_z (ws : List WordL) (i : Nat) : (ws.map zW).getD i ⟨false, 0, [], 0⟩ = zW (ws.getD i ⟨false, 0, [], 0⟩) := by
  rw [List.getD_eq_getElem?_getD, List.getD_eq_getElem?_getD, List.getElem?_map]
  cases ws[i]? <;> rfl
theorem end_z (nm : Bytes) (ws : List WordL) : endK nm (ws.map zW) = endK nm ws := by
  unfold endK
  simp only [head_z, get_z, place_z, List.length_map]
theorem num_z (ws : List WordL) : (ws.map zW).all (·.num) = ws.all (·.num) := by
  induction ws with
  | nil => rfl
  | cons w r ih => simp only [List.map_cons, List.all_cons]; rw [ih]; rfl
theorem zW_n (w : WordL) : (zW w).n = w.n := rfl
theorem zW_num (w : WordL) : (zW w).num = w.num := rfl
theorem zW_s (w : WordL) : (zW w).s = w.s := rfl
theorem key_z (key : Bytes) (c : CalL) (ws : List WordL) : keyK key c (ws.map zW) = keyK key c ws := by
  unfold keyK
  simp only [head_z, get_z, place_z, List.length_map, num_z, zW_n, zW_num]
theorem put_z (key : Bytes) (c : CalL) (ws : List WordL) : putK key c (ws.map zW) = putK key c ws := by
  unfold putK
  rw [end_z, key_z]

def zP : (Int × Int) ⊕ (Option CalL) → (Int × Int) ⊕ (Option CalL)
  | .inl (_, e) => .inl (0, e)
  | .inr c => .inr c
theorem empty_z (ws : List WordL) : (ws.map zW).isEmpty = ws.isEmpty := by cases ws <;> rfl
theorem formed_cons (nm : Bytes) (seen : List Bytes) (c : Option CalL) (kn : Bytes) (kp : Int) (kw : List WordL) (kb : Bool) (kk r : List NodeL) : formedL nm seen c (.mk kn kp kw kb kk :: r) =
    if (!keysL.contains kn) = true then .inl (kp, 8) else if seen.contains kn = true then .inl (kp, 9) else if (kb || kw.isEmpty || !(putK kn { calZ with name := nm } kw).2) = true then .inl (kp, 5)
    else formedL nm (seen ++ [kn]) (if kn = b_end then some (putK kn { calZ with name := nm } kw).1 else c) r := rfl
theorem zNs_cons (kn : Bytes) (kp : Int) (kw : List WordL) (kb : Bool) (kk r : List NodeL) : zNs (.mk kn kp kw kb kk :: r) = .mk kn 0 (kw.map zW) kb (zNs kk) :: zNs r := by simp only [zNs, zN]
theorem formed_z (nm : Bytes) : ∀ (l : List NodeL) (seen : List Bytes) (c : Option CalL), formedL nm seen c (zNs l) = zP (formedL nm seen c l)
  | [], seen, c => rfl
  | .mk kn kp kw kb kk :: r, seen, c => by
    rw [zNs_cons, formed_cons, formed_cons, put_z, empty_z]
    by_cases h1 : (!keysL.contains kn) = true
    · rw [if_pos h1, if_pos h1]; rfl
    · rw [if_neg h1, if_neg h1]
      by_cases h2 : seen.contains kn = true
      · rw [if_pos h2, if_pos h2]; rfl
      · rw [if_neg h2, if_neg h2]
        by_cases h3 : (kb || kw.isEmpty || !(putK kn { calZ with name := nm } kw).2) = true
        · rw [if_pos h3, if_pos h3]; rfl
        · rw [if_neg h3, if_neg h3]
          exact formed_z nm r _ _
def zO : Option (Int × Int) → Option (Int × Int)
  | some (_, e) => some (0, e)
  | none => none
theorem fits_cons (kind : Int) (seen : List Bytes) (kn : Bytes) (kp : Int) (kw : List WordL) (kb : Bool) (kk r : List NodeL) : fitsL kind seen (.mk kn kp kw kb kk :: r) =
    if (!standsC kind kn) = true then some (kp, 8) else if (kn = b_periods ∧ b_pay ∈ seen) ∨ (kn = b_pay ∧ b_periods ∈ seen) then some (kp, 9) else fitsL kind (seen ++ [kn]) r := rfl
theorem fits_z (kind : Int) : ∀ (l : List NodeL) (seen : List Bytes), fitsL kind seen (zNs l) = zO (fitsL kind seen l)
  | [], seen => rfl
  | .mk kn kp kw kb kk :: r, seen => by
    rw [zNs_cons, fits_cons, fits_cons]
    by_cases h : (!standsC kind kn) = true
    · rw [if_pos h, if_pos h]; rfl
    · rw [if_neg h, if_neg h]
      by_cases h2 : kn = b_periods ∧ b_pay ∈ seen ∨ kn = b_pay ∧ b_periods ∈ seen
      · rw [if_pos h2, if_pos h2]; rfl
      · rw [if_neg h2, if_neg h2]
        exact fits_z kind r _
theorem names_z : ∀ l : List NodeL, (zNs l).map NodeL.name = l.map NodeL.name
  | [] => rfl
  | .mk kn kp kw kb kk :: r => by simp only [zNs, zN, List.map_cons, NodeL.name, names_z r]
theorem putAll_z : ∀ (l : List NodeL) (c : CalL), putAll c (zNs l) = putAll c l
  | [], c => rfl
  | .mk kn kp kw kb kk :: r, c => by
    have := putAll_z r
    unfold putAll at this ⊢
    simp only [zNs, zN, List.foldl_cons, NodeL.name, NodeL.words, key_z]
    exact this _
theorem block_z (n : NodeL) : (readBlock (zN n)).cal = (readBlock n).cal ∧ (readBlock (zN n)).err = (readBlock n).err := by
  obtain ⟨nm, p, ws, b, ks⟩ := n
  have hk : ∀ (nm : Bytes) (p : Int) (ws : List WordL) (b : Bool) (ks : List NodeL), readBlock (.mk nm p ws b ks) =
      match formedL (ws.headD ⟨false, 0, [], 0⟩).s [] none ks with
      | .inl (p, e) => ⟨calZ, p, e⟩
      | .inr none => ⟨calZ, p, 10⟩
      | .inr (some c) =>
        match fitsL c.kind [] ks with
        | some (p, e) => ⟨calZ, p, e⟩
        | none => if missL c.kind (ks.map NodeL.name) = true then ⟨calZ, p, 10⟩ else if okC (putAll c ks) = true then ⟨putAll c ks, 0, 0⟩ else ⟨calZ, p, 1⟩ := fun _ _ _ _ _ => rfl
  rw [show zN (.mk nm p ws b ks) = .mk nm 0 (ws.map zW) b (zNs ks) by simp only [zN], hk, hk, head_z, zW_s, formed_z]
  rcases formedL (ws.headD ⟨false, 0, [], 0⟩).s [] none ks with ⟨p1, e1⟩ | (_ | c)
  · exact ⟨rfl, rfl⟩
  · exact ⟨rfl, rfl⟩
  · simp only [zP]
    rw [fits_z]
    rcases fitsL c.kind [] ks with _ | ⟨p2, e2⟩
    · simp only [zO]
      rw [names_z, putAll_z]
      by_cases h3 : missL c.kind (ks.map NodeL.name) = true
      · rw [if_pos h3, if_pos h3]; exact ⟨rfl, rfl⟩
      · rw [if_neg h3, if_neg h3]
        by_cases h4 : okC (putAll c ks) = true
        · rw [if_pos h4, if_pos h4]; exact ⟨rfl, rfl⟩
        · rw [if_neg h4, if_neg h4]; exact ⟨rfl, rfl⟩
    · exact ⟨rfl, rfl⟩
theorem read_z (n : NodeL) : (readC (zN n)).cal = (readC n).cal ∧ (readC (zN n)).err = (readC n).err := by
  have hb := block_z n
  obtain ⟨nm, p, ws, b, ks⟩ := n
  have hck : checkL 0 [zN (.mk nm p ws b ks)] = checkL 0 [.mk nm p ws b ks] := by
    have := check_z [.mk nm p ws b ks] 0
    simpa only [zNs] using this
  have hr : ∀ (nm : Bytes) (p : Int) (ws : List WordL) (b : Bool) (ks : List NodeL), readC (.mk nm p ws b ks) =
      if checkL 0 [.mk nm p ws b ks] ≠ 0 then ⟨calZ, 0, 1⟩ else if nm ≠ b_calendar ∨ b = false ∨ ws.length ≠ 1 ∨ (ws.headD ⟨false, 0, [], 0⟩).num = true then ⟨calZ, p, 5⟩ else readBlock (.mk nm p ws b ks) := fun _ _ _ _ _ => rfl
  have hz : zN (.mk nm p ws b ks) = .mk nm 0 (ws.map zW) b (zNs ks) := by simp only [zN]
  rw [hz] at hck hb ⊢
  rw [hr, hr, hck, List.length_map, head_z, zW_num]
  by_cases h1 : checkL 0 [.mk nm p ws b ks] ≠ 0
  · rw [if_pos h1, if_pos h1]; exact ⟨rfl, rfl⟩
  · rw [if_neg h1, if_neg h1]
    by_cases h2 : nm ≠ b_calendar ∨ b = false ∨ ws.length ≠ 1 ∨ (ws.headD ⟨false, 0, [], 0⟩).num = true
    · rw [if_pos h2, if_pos h2]; exact ⟨rfl, rfl⟩
    · rw [if_neg h2, if_neg h2]; exact hb
theorem read_alike (n m : NodeL) (h : zN n = zN m) : (readC n).cal = (readC m).cal ∧ (readC n).err = (readC m).err := by
  obtain ⟨a, b⟩ := read_z n
  obtain ⟨c, d⟩ := read_z m
  rw [h] at a b
  exact ⟨a.symm.trans c, b.symm.trans d⟩

/-! ### Places -/
mutual
def inN (E : Int) : NodeL → Prop
  | .mk _ p _ _ ks => (0 ≤ p ∧ p ≤ E) ∧ inNs E ks
def inNs (E : Int) : List NodeL → Prop
  | [] => True
  | n :: r => inN E n ∧ inNs E r
end
theorem inNs_app (E : Int) : ∀ l m : List NodeL, inNs E l → inNs E m → inNs E (l ++ m)
  | [], m, _, h => h
  | n :: r, m, h, h' => by simp only [List.cons_append, inNs] at h ⊢; exact ⟨h.1, inNs_app E r m h.2 h'⟩
theorem inNs_mem (E : Int) : ∀ (l : List NodeL), inNs E l → ∀ n ∈ l, inN E n
  | [], _, n, hn => by simp at hn
  | a :: r, h, n, hn => by
    simp only [inNs] at h
    rcases List.mem_cons.1 hn with rfl | hn
    · exact h.1
    · exact inNs_mem E r h.2 n hn
theorem inN_pos {E : Int} {n : NodeL} (h : inN E n) : 0 ≤ n.pos ∧ n.pos ≤ E := by obtain ⟨a, b, c, d, e⟩ := n; simp only [inN] at h; exact h.1
theorem inN_kids {E : Int} {n : NodeL} (h : inN E n) : inNs E n.kids := by obtain ⟨a, b, c, d, e⟩ := n; simp only [inN] at h; exact h.2
def inF (E : Int) (f : FrameL) : Prop := (0 ≤ f.pos ∧ f.pos ≤ E) ∧ inNs E f.kids
theorem inF_add {E : Int} {f : FrameL} {n : NodeL} (h : inF E f) (hn : inN E n) : inF E (f.add n) := ⟨h.1, inNs_app E _ _ h.2 (by simp only [inNs]; exact ⟨hn, trivial⟩)⟩
theorem inF_node {E : Int} {f : FrameL} (h : inF E f) : inN E f.node := by unfold FrameL.node; simp only [inN]; exact h
def inS (E : Int) (fs : List FrameL) (it : Option ItemL) : Prop := (∀ f ∈ fs, inF E f) ∧ ∀ i, it = some i → 0 ≤ i.pos ∧ i.pos ≤ E
theorem step_in (E : Int) (fs : List FrameL) (it : Option ItemL) (t : Tok) (h : inS E fs it) (ht : 0 ≤ t.pos ∧ t.pos ≤ E) (fs' : List FrameL) (it' : Option ItemL) (hs : stepT fs it t = .fine fs' it') : inS E fs' it' := by
  obtain ⟨h1, h2⟩ := h
  cases it with
  | none =>
    simp only [stepT, beginT] at hs
    by_cases k1 : t.kind = 1
    · rw [if_pos k1] at hs
      cases hs
      exact ⟨h1, fun i hi => by cases hi; exact ht⟩
    · rw [if_neg k1] at hs
      by_cases k4 : t.kind = 4
      · rw [if_pos k4] at hs
        match fs, h1, hs with
        | f :: g :: r, h1, hs =>
          cases hs
          refine ⟨fun x hx => ?_, fun i hi => by cases hi⟩
          rcases List.mem_cons.1 hx with rfl | hx
          · exact inF_add (h1 g (by simp)) (inF_node (h1 f (by simp)))
          · exact h1 x (by simp [hx])
        | [], _, hs => cases hs
        | [f], _, hs => cases hs
      · rw [if_neg k4] at hs; cases hs
  | some i =>
    have hi := h2 i rfl
    simp only [stepT, goT] at hs
    by_cases k1 : t.kind = 1 ∨ t.kind = 2
    · rw [if_pos k1] at hs
      by_cases k8 : i.words.length = 8
      · rw [if_pos k8] at hs; cases hs
      · rw [if_neg k8] at hs
        cases hs
        exact ⟨h1, fun j hj => by cases hj; exact hi⟩
    · rw [if_neg k1] at hs
      by_cases k5 : t.kind = 5
      · rw [if_pos k5] at hs
        match fs, h1, hs with
        | f :: r, h1, hs =>
          cases hs
          refine ⟨fun x hx => ?_, fun i hi => by cases hi⟩
          rcases List.mem_cons.1 hx with rfl | hx
          · exact inF_add (h1 f (by simp)) (by unfold ItemL.node; simp only [inN, inNs]; exact ⟨hi, trivial⟩)
          · exact h1 x (by simp [hx])
        | [], _, hs => cases hs
      · rw [if_neg k5] at hs
        by_cases k3 : t.kind = 3
        · rw [if_pos k3] at hs
          by_cases k7 : fs.length = 7
          · rw [if_pos k7] at hs; cases hs
          · rw [if_neg k7] at hs
            cases hs
            refine ⟨fun x hx => ?_, fun i hi => by cases hi⟩
            rcases List.mem_cons.1 hx with rfl | hx
            · exact ⟨hi, by simp only [inNs]⟩
            · exact h1 x hx
        · rw [if_neg k3] at hs; cases hs
theorem parse_in (E E' : Int) : ∀ (ts : List Tok) (fs : List FrameL) (it : Option ItemL), inS E fs it → (∀ t ∈ ts, 0 ≤ t.pos ∧ t.pos ≤ E) → inNs E (parseT E' fs it ts).nodes
  | [], fs, it, h, _ => by
    unfold parseT endT
    split
    · exact (h.1 _ (by simp)).2
    · simp only [inNs]
  | t :: ts, fs, it, h, ht => by
    unfold parseT
    cases hs : stepT fs it t with
    | bad e => simp only [inNs]
    | fine fs' it' => exact parse_in E E' ts fs' it' (step_in E fs it t h (ht t (by simp)) fs' it' hs) fun x hx => ht x (by simp [hx])
theorem tree_in (s : Bytes) : inNs s.length (treeL s).nodes := by
  unfold treeL
  split
  · simp only [inNs]
  · refine parse_in s.length _ _ _ _ ⟨fun f hf => ?_, fun i hi => by cases hi⟩ fun t ht => ?_
    · rcases List.mem_singleton.1 hf with rfl
      exact ⟨⟨by simp [rootF], by simp [rootF]⟩, by simp only [rootF, inNs]⟩
    · have := cutL_posLt s t ht
      omega

theorem formed_in (E : Int) (nm : Bytes) : ∀ (l : List NodeL) (seen : List Bytes) (c : Option CalL) (p e : Int), inNs E l → formedL nm seen c l = .inl (p, e) → 0 ≤ p ∧ p ≤ E
  | [], seen, c, p, e, _, h => by simp [formedL] at h
  | k :: r, seen, c, p, e, hi, h => by
    simp only [inNs] at hi
    simp only [formedL] at h
    have hp := inN_pos hi.1
    split at h
    · cases h; exact hp
    · split at h
      · cases h; exact hp
      · split at h
        · cases h; exact hp
        · exact formed_in E nm r _ _ p e hi.2 h
theorem fits_in (E : Int) (kind : Int) : ∀ (l : List NodeL) (seen : List Bytes) (p e : Int), inNs E l → fitsL kind seen l = some (p, e) → 0 ≤ p ∧ p ≤ E
  | [], seen, p, e, _, h => by simp [fitsL] at h
  | k :: r, seen, p, e, hi, h => by
    simp only [inNs] at hi
    simp only [fitsL] at h
    have hp := inN_pos hi.1
    split at h
    · cases h; exact hp
    · split at h
      · cases h; exact hp
      · exact fits_in E kind r _ p e hi.2 h
theorem read_in (E : Int) (hE : 0 ≤ E) (n : NodeL) (h : inN E n) : 0 ≤ (readC n).at_ ∧ (readC n).at_ ≤ E := by
  have hp := inN_pos h
  have hk := inN_kids h
  unfold readC
  split
  · exact ⟨Int.le_refl 0, hE⟩
  · split
    · exact hp
    · unfold readBlock
      simp only
      cases hf : formedL (n.words.headD ⟨false, 0, [], 0⟩).s [] none n.kids with
      | inl pe => exact formed_in E _ _ _ _ pe.1 pe.2 hk hf
      | inr o =>
        cases o with
        | none => exact hp
        | some c =>
          simp only
          cases hg : fitsL c.kind [] n.kids with
          | some pe => exact fits_in E _ _ _ pe.1 pe.2 hk hg
          | none =>
            simp only
            split
            · exact hp
            · split
              · exact ⟨Int.le_refl 0, hE⟩
              · exact hp
theorem go_in (E : Int) (hE : 0 ≤ E) : ∀ (l : List NodeL) (out : List CalL), inNs E l → 0 ≤ (readGo out l).pos ∧ (readGo out l).pos ≤ E
  | [], out, _ => ⟨Int.le_refl 0, hE⟩
  | n :: r, out, h => by
    simp only [inNs] at h
    have hp := inN_pos h.1
    unfold readGo
    split
    · exact hp
    · split
      · exact read_in E hE n h.1
      · split
        · exact hp
        · exact go_in E hE r _ h.2
/-- What is wrong is told within the text. -/
theorem conf_in (s : Bytes) (hs : s.length ≤ 65536) : 0 ≤ (confRead s).pos ∧ (confRead s).pos ≤ s.length := by
  unfold confRead
  split
  · rename_i h
    exact (tree_err s hs h).2
  · exact go_in _ (by omega) _ _ (tree_in s)
end Go.Proofs.Ytjbniichcopnlaa
end

section
/- Layer 9, in plain Lean: two texts, one behind the other. -/
namespace Go.Proofs.Ytjbniichcopnlaa

def sW (d : Int) (w : WordL) : WordL := { w with pos := w.pos + d }
mutual
def sN (d : Int) : NodeL → NodeL
  | .mk nm p ws b ks => .mk nm (p + d) (ws.map (sW d)) b (sNs d ks)
def sNs (d : Int) : List NodeL → List NodeL
  | [] => []
  | n :: r => sN d n :: sNs d r
end
theorem sNs_append (d : Int) : ∀ l m : List NodeL, sNs d (l ++ m) = sNs d l ++ sNs d m
  | [], m => rfl
  | n :: r, m => by simp only [List.cons_append, sNs, sNs_append d r m]
def sF (d : Int) (f : FrameL) : FrameL := ⟨f.name, f.pos + d, f.words.map (sW d), sNs d f.kids⟩
def sI (d : Int) (i : ItemL) : ItemL := ⟨i.name, i.pos + d, i.words.map (sW d)⟩
def sT (d : Int) (t : Tok) : Tok := { t with pos := t.pos + d }
/-- The frames moved, the outermost one being behind a's items. -/
def sB (d : Int) (a : FrameL) : List FrameL → List FrameL
  | [] => []
  | [f] => [⟨a.name, a.pos, a.words, a.kids ++ sNs d f.kids⟩]
  | f :: g :: r => sF d f :: sB d a (g :: r)
theorem sB_len (d : Int) (a : FrameL) : ∀ fs : List FrameL, (sB d a fs).length = fs.length
  | [] => rfl
  | [f] => rfl
  | f :: g :: r => by simp only [sB, List.length_cons, sB_len d a (g :: r)]
theorem sB_add (d : Int) (a : FrameL) (g : FrameL) (r : List FrameL) (n : NodeL) : sB d a (g.add n :: r) = (match sB d a (g :: r) with | h :: q => h.add (sN d n) :: q | [] => []) := by
  cases r with
  | nil => simp [sB, FrameL.add, sNs_append, sNs]
  | cons x r => simp [sB, FrameL.add, sF, sNs_append, sNs]

def okB (fs : List FrameL) : Prop := fs.getLast? = none ∨ ∃ f, fs.getLast? = some f
theorem stepT_none (fs : List FrameL) (tk p n : Int) (s : Bytes) : stepT fs none ⟨tk, p, n, s⟩ = (if tk = 1 then .fine fs (some ⟨s, p, []⟩) else if tk = 4 then (match fs with | f :: g :: r => .fine (g.add f.node :: r) none | _ => .bad 5) else .bad 5) := rfl
theorem stepT_some (fs : List FrameL) (i : ItemL) (tk p n : Int) (s : Bytes) : stepT fs (some i) ⟨tk, p, n, s⟩ = (if tk = 1 ∨ tk = 2 then (if i.words.length = 8 then .bad 6 else .fine fs (some ⟨i.name, i.pos, i.words ++ [⟨decide (tk = 2), n, s, p⟩]⟩)) else if tk = 5 then (match fs with | f :: r => .fine (f.add i.node :: r) none | [] => .bad 5) else if tk = 3 then (if fs.length = 7 then .bad 7 else .fine (⟨i.name, i.pos, i.words, []⟩ :: fs) none) else .bad 5) := rfl
theorem step_shift (d : Int) (a : FrameL) (fs : List FrameL) (it : Option ItemL) (t : Tok) (hne : fs ≠ []) :
    stepT (sB d a fs) (it.map (sI d)) (sT d t) = (match stepT fs it t with | .bad e => .bad e | .fine fs' it' => .fine (sB d a fs') (it'.map (sI d))) := by
  obtain ⟨tk, tp, tn, ts⟩ := t
  rw [show sT d ⟨tk, tp, tn, ts⟩ = ⟨tk, tp + d, tn, ts⟩ from rfl]
  cases it with
  | none =>
    simp only [Option.map_none, stepT_none]
    by_cases h1 : tk = 1
    · rw [if_pos h1, if_pos h1]; rfl
    · rw [if_neg h1, if_neg h1]
      by_cases h4 : tk = 4
      · rw [if_pos h4, if_pos h4]
        rcases fs with _ | ⟨x, _ | ⟨y, r⟩⟩
        · rfl
        · rfl
        · simp only [sB]
          have hb := sB_add d a y r x.node
          rcases hq : sB d a (y :: r) with _ | ⟨h, q⟩
          · have := sB_len d a (y :: r); rw [hq] at this; simp at this
          · rw [hq] at hb
            simp only at hb ⊢
            rw [hb]; rfl
      · rw [if_neg h4, if_neg h4]
  | some i =>
    simp only [Option.map_some, stepT_some]
    by_cases h12 : tk = 1 ∨ tk = 2
    · rw [if_pos h12, if_pos h12]
      by_cases h8 : i.words.length = 8
      · rw [if_pos h8, if_pos (by simpa [sI] using h8)]
      · rw [if_neg h8, if_neg (by simpa [sI] using h8)]
        simp [sI, sW]
    · rw [if_neg h12, if_neg h12]
      by_cases h5 : tk = 5
      · rw [if_pos h5, if_pos h5]
        rcases fs with _ | ⟨y, r⟩
        · exact absurd rfl hne
        · have hb := sB_add d a y r i.node
          rcases hq : sB d a (y :: r) with _ | ⟨h, q⟩
          · have := sB_len d a (y :: r); rw [hq] at this; simp at this
          · rw [hq] at hb
            simp only at hb ⊢
            rw [hb]; rfl
      · rw [if_neg h5, if_neg h5]
        by_cases h3 : tk = 3
        · rw [if_pos h3, if_pos h3, sB_len]
          by_cases h7 : fs.length = 7
          · rw [if_pos h7, if_pos h7]
          · rw [if_neg h7, if_neg h7]
            rcases fs with _ | ⟨y, r⟩
            · exact absurd rfl hne
            · simp [sB, sF, sI, sNs]
        · rw [if_neg h3, if_neg h3]

theorem parse_shift (d : Int) (a : FrameL) (E : Int) : ∀ (ts : List Tok) (fs : List FrameL) (it : Option ItemL), fs ≠ [] →
    parseT (E + d) (sB d a fs) (it.map (sI d)) (ts.map (sT d)) =
      if (parseT E fs it ts).err = 0 then ⟨a.kids ++ sNs d (parseT E fs it ts).nodes, 0, 0⟩ else ⟨[], (parseT E fs it ts).pos + d, (parseT E fs it ts).err⟩
  | [], fs, it, hne => by
    simp only [List.map_nil, parseT]
    rcases fs with _ | ⟨f, _ | ⟨g, r⟩⟩
    · exact absurd rfl hne
    · cases it <;> simp [sB, endT]
    · have : ∃ x y q, sB d a (f :: g :: r) = x :: y :: q := by
        rcases hq : sB d a (g :: r) with _ | ⟨h, q⟩
        · have := sB_len d a (g :: r); rw [hq] at this; simp at this
        · exact ⟨sF d f, h, q, by simp only [sB]; rw [hq]⟩
      obtain ⟨x, y, q, e⟩ := this
      rw [e]
      cases it <;> simp [endT]
  | t :: ts, fs, it, hne => by
    rw [List.map_cons, parseT, step_shift d a fs it t hne, parseT]
    cases hst : stepT fs it t with
    | bad e =>
      have := step_bad0 e fs it t hst
      simp [this, sT]
    | fine fs' it' =>
      simp only
      exact parse_shift d a E ts fs' it' (open_step.step_ne hne hst)

theorem parse_app (E E' : Int) : ∀ (ts us : List Tok) (fs : List FrameL) (it : Option ItemL), (parseT E fs it ts).err = 0 →
    ∃ f : FrameL, f.kids = (parseT E fs it ts).nodes ∧ parseT E' fs it (ts ++ us) = parseT E' [f] none us
  | [], us, fs, it, h => by
    rw [parseT] at h
    rcases fs with _ | ⟨f, _ | ⟨g, r⟩⟩
    · simp [endT] at h
    · cases it with
      | none => exact ⟨f, rfl, rfl⟩
      | some i => simp [endT] at h
    · cases it <;> simp [endT] at h
  | t :: ts, us, fs, it, h => by
    rw [parseT] at h
    rw [List.cons_append, parseT, parseT]
    cases hst : stepT fs it t with
    | bad e =>
      rw [hst] at h
      exact absurd h (step_bad0 e fs it t hst)
    | fine fs' it' =>
      rw [hst] at h
      simp only at h
      obtain ⟨f, h1, h2⟩ := parse_app E E' ts us fs' it' h
      exact ⟨f, h1, h2⟩

theorem sameW_shift (d : Int) (w : WordL) : sameW (sW d w) w = true := by simp [sameW, sW]
theorem sameW_refl (w : WordL) : sameW w w = true := by simp [sameW]
theorem sameWs_shift (d : Int) : ∀ l : List WordL, sameWs (l.map (sW d)) l = true
  | [] => rfl
  | w :: l => by rw [List.map_cons, sameWs, sameW_shift, sameWs_shift d l]; rfl
theorem sameWs_refl : ∀ l : List WordL, sameWs l l = true
  | [] => rfl
  | w :: l => by rw [sameWs, sameW_refl, sameWs_refl l]; rfl
theorem sameNs_shift (d : Int) : ∀ l : List NodeL, sameNs (sNs d l) l = true
  | [] => rfl
  | .mk nm p ws b ks :: r => by
    simp only [sNs, sN, sameNs, sameN, sameWs_shift, sameNs_shift d ks, sameNs_shift d r]
    simp
theorem sameNs_refl : ∀ l : List NodeL, sameNs l l = true
  | [] => rfl
  | .mk nm p ws b ks :: r => by
    simp only [sameNs, sameN, sameWs_refl, sameNs_refl ks, sameNs_refl r]
    simp
theorem sameNs_append : ∀ l l' m m' : List NodeL, sameNs l l' = true → sameNs m m' = true → sameNs (l ++ m) (l' ++ m') = true
  | [], [], m, m', _, h => h
  | [], _ :: _, m, m', h, _ => by simp [sameNs] at h
  | _ :: _, [], m, m', h, _ => by simp [sameNs] at h
  | x :: l, y :: l', m, m', h, h' => by
    simp only [sameNs, Bool.and_eq_true] at h
    simp only [List.cons_append, sameNs, h.1, sameNs_append l l' m m' h.2 h', Bool.and_self]

/-- The tokens of two texts. -/
theorem cut_two (s t : Bytes) (hs : s.length ≤ 200) (ht : t.length ≤ 200) (he : (cutL s).err = 0) :
    cutL (s ++ 10 :: t) = if (cutL t).err = 0 then ⟨(cutL s).toks ++ (cutL t).toks.map (sT ((s.length + 1 : Nat) : Int)), 0, 0⟩ else ⟨[], (cutL t).pos + (s.length + 1), (cutL t).err⟩ := by
  have e : cutL s = cutM false 0 0 0 s := by unfold cutL; rw [if_neg (by omega)]
  have e2 : cutL t = cutM false 0 0 0 t := by unfold cutL; rw [if_neg (by omega)]
  have e3 : cutL (s ++ 10 :: t) = cutM false 0 0 0 (s ++ 10 :: t) := by unfold cutL; rw [if_neg (by simp; omega)]
  have hlen := cutM_len false 0 0 0 s
  rw [e] at he ⊢
  rw [e2, e3, cutM_app false 0 0 0 s t (Nat.zero_le _), if_pos he, Nat.zero_add, Nat.zero_add]
  have h1 : cutM false 0 (s.length + 1) (cutM false 0 0 0 s).toks.length t = (cutM false 0 0 0 t).shift (s.length + 1) := by
    rw [cutM_cnt false 0 (s.length + 1) _ 0 t (by omega) (by omega)]
    have := cutM_shift (s.length + 1) false 0 0 0 t
    rwa [Nat.zero_add] at this
  rw [h1]
  have herr := cutM_err false 0 0 0 t
  by_cases hf : (cutM false 0 0 0 t).err = 0
  · rw [if_pos hf]
    unfold CutRes.pre CutRes.shift
    rw [if_pos hf]
    rfl
  · rw [if_neg hf]
    have hn := herr.2 hf
    unfold CutRes.pre CutRes.shift
    rw [if_neg hf, if_neg hf, hn]
    rfl

theorem right_law' (s : Bytes) (hc : (cutL s).toks.length ≤ 400) (he : (treeL s).err = 0) : checkL 0 (treeL s).nodes = 0 ∧ cntL (treeL s).nodes ≤ 400 := by
  obtain ⟨h1, h2⟩ := treeL_err0 s he
  obtain ⟨_, _, hfl⟩ := tokens_law s he
  have hck : checkL 0 (treeL s).nodes = 0 := by
    rw [h2] at he ⊢
    exact parse_inv s.length _ _ _ (cutL_tokOk s) ⟨rfl, fun h => absurd rfl h, trivial⟩ trivial (by simp) he
  refine ⟨hck, ?_⟩
  have a := cnt_flat (treeL s).nodes 0 hck
  rw [hfl, List.length_map] at a
  omega

/-- Two texts, one behind the other, are read as the items of both. -/
theorem two_tree (s t : Bytes) (hs : s.length ≤ 200) (ht : t.length ≤ 200) (he : (treeL s).err = 0) :
    treeL (s ++ 10 :: t) = (if (treeL t).err = 0 then ⟨(treeL s).nodes ++ sNs ((s.length + 1 : Nat) : Int) (treeL t).nodes, 0, 0⟩ else ⟨[], (treeL t).pos + ((s.length + 1 : Nat) : Int), (treeL t).err⟩) ∧
      (cutL (s ++ 10 :: t)).toks.length ≤ 400 := by
  obtain ⟨h1, h2⟩ := treeL_err0 s he
  have hct := cut_two s t hs ht h1
  have hl1 := cutL_len s
  have hl2 := cutL_len t
  refine ⟨?_, ?_⟩
  · by_cases hf : (cutL t).err = 0
    · rw [if_pos hf] at hct
      have e1 : treeL (s ++ 10 :: t) = parseT (s ++ 10 :: t).length [rootF] none ((cutL s).toks ++ (cutL t).toks.map (sT ((s.length + 1 : Nat) : Int))) := by
        unfold treeL; rw [hct, if_neg (by simp)]
      have e2 : treeL t = parseT t.length [rootF] none (cutL t).toks := by unfold treeL; rw [if_neg (by simp [hf])]
      rw [h2] at he
      obtain ⟨f, hf1, hf2⟩ := parse_app s.length (s ++ 10 :: t).length (cutL s).toks ((cutL t).toks.map (sT ((s.length + 1 : Nat) : Int))) [rootF] none he
      rw [e1, hf2, e2]
      have hE : ((s ++ 10 :: t).length : Int) = (t.length : Int) + ((s.length + 1 : Nat) : Int) := by simp; omega
      have hps := parse_shift ((s.length + 1 : Nat) : Int) f t.length (cutL t).toks [rootF] none (by simp)
      have hroot : sB ((s.length + 1 : Nat) : Int) f [rootF] = [f] := by simp [sB, rootF, sNs]
      rw [hroot] at hps
      rw [hE]
      have hps' : parseT ((t.length : Int) + ((s.length + 1 : Nat) : Int)) [f] none ((cutL t).toks.map (sT ((s.length + 1 : Nat) : Int))) = _ := hps
      rw [hps', hf1, ← h2]
    · rw [if_neg hf] at hct
      have e1 : treeL (s ++ 10 :: t) = ⟨[], (((cutL t).pos + (s.length + 1) : Nat) : Int), (cutL t).err⟩ := by
        unfold treeL; rw [hct, if_pos hf]
      have e2 : treeL t = ⟨[], (cutL t).pos, (cutL t).err⟩ := by unfold treeL; rw [if_pos hf]
      rw [e1, e2, if_neg hf]
      simp
  · rw [hct]
    split
    · rw [List.length_append, List.length_map]; omega
    · simp

end Go.Proofs.Ytjbniichcopnlaa
end

section
/- Layer 12 (conf), in plain Lean: two texts, one behind the other. -/
namespace Go.Proofs.Ytjbniichcopnlaa

/-- The tokens of two texts (as XTreeT's, of longer texts). -/
theorem cut_twoG (s t : Bytes) (hs : s.length ≤ 2000) (ht : t.length ≤ 2000) (he : (cutL s).err = 0) :
    cutL (s ++ 10 :: t) = if (cutL t).err = 0 then ⟨(cutL s).toks ++ (cutL t).toks.map (sT ((s.length + 1 : Nat) : Int)), 0, 0⟩ else ⟨[], (cutL t).pos + (s.length + 1), (cutL t).err⟩ := by
  have e : cutL s = cutM false 0 0 0 s := by unfold cutL; rw [if_neg (by omega)]
  have e2 : cutL t = cutM false 0 0 0 t := by unfold cutL; rw [if_neg (by omega)]
  have e3 : cutL (s ++ 10 :: t) = cutM false 0 0 0 (s ++ 10 :: t) := by unfold cutL; rw [if_neg (by simp; omega)]
  have hlen := cutM_len false 0 0 0 s
  rw [e] at he ⊢
  rw [e2, e3, cutM_app false 0 0 0 s t (Nat.zero_le _), if_pos he, Nat.zero_add, Nat.zero_add]
  have h1 : cutM false 0 (s.length + 1) (cutM false 0 0 0 s).toks.length t = (cutM false 0 0 0 t).shift (s.length + 1) := by
    rw [cutM_cnt false 0 (s.length + 1) _ 0 t (by omega) (by omega)]
    have := cutM_shift (s.length + 1) false 0 0 0 t
    rwa [Nat.zero_add] at this
  rw [h1]
  have herr := cutM_err false 0 0 0 t
  by_cases hf : (cutM false 0 0 0 t).err = 0
  · rw [if_pos hf]
    unfold CutRes.pre CutRes.shift
    rw [if_pos hf]
    rfl
  · rw [if_neg hf]
    have hn := herr.2 hf
    unfold CutRes.pre CutRes.shift
    rw [if_neg hf, if_neg hf, hn]
    rfl
/-- The items of two texts that are read. -/
theorem two_treeG (s t : Bytes) (hs : s.length ≤ 2000) (ht : t.length ≤ 2000) (he : (treeL s).err = 0) (hf' : (treeL t).err = 0) :
    treeL (s ++ 10 :: t) = ⟨(treeL s).nodes ++ sNs ((s.length + 1 : Nat) : Int) (treeL t).nodes, 0, 0⟩ := by
  obtain ⟨h1, h2⟩ := treeL_err0 s he
  have hct := cut_twoG s t hs ht h1
  by_cases hf : (cutL t).err = 0
  · rw [if_pos hf] at hct
    have e1 : treeL (s ++ 10 :: t) = parseT (s ++ 10 :: t).length [rootF] none ((cutL s).toks ++ (cutL t).toks.map (sT ((s.length + 1 : Nat) : Int))) := by
      unfold treeL; rw [hct, if_neg (by simp)]
    have e2 : treeL t = parseT t.length [rootF] none (cutL t).toks := by unfold treeL; rw [if_neg (by simp [hf])]
    rw [h2] at he
    obtain ⟨f, hf1, hf2⟩ := parse_app s.length (s ++ 10 :: t).length (cutL s).toks ((cutL t).toks.map (sT ((s.length + 1 : Nat) : Int))) [rootF] none he
    have hE : ((s ++ 10 :: t).length : Int) = (t.length : Int) + ((s.length + 1 : Nat) : Int) := by simp; omega
    have hps := parse_shift ((s.length + 1 : Nat) : Int) f t.length (cutL t).toks [rootF] none (by simp)
    have hroot : sB ((s.length + 1 : Nat) : Int) f [rootF] = [f] := by simp [sB, rootF, sNs]
    rw [hroot] at hps
    have hps' : parseT ((t.length : Int) + ((s.length + 1 : Nat) : Int)) [f] none ((cutL t).toks.map (sT ((s.length + 1 : Nat) : Int))) = _ := hps
    rw [e1, hf2, hE, hps', hf1, ← h2, ← e2, if_pos hf']
  · have e2 : treeL t = ⟨[], (cutL t).pos, (cutL t).err⟩ := by unfold treeL; rw [if_pos hf]
    rw [e2] at hf'
    exact absurd hf' hf

theorem zW_sW (d : Int) (w : WordL) : zW (sW d w) = zW w := rfl
mutual
theorem zN_sN (d : Int) : ∀ n : NodeL, zN (sN d n) = zN n
  | .mk nm p ws b ks => by simp only [sN, zN, zNs_sNs d ks, List.map_map]; rfl
theorem zNs_sNs (d : Int) : ∀ l : List NodeL, zNs (sNs d l) = zNs l
  | [] => rfl
  | n :: r => by simp only [sNs, zNs, zN_sN d n, zNs_sNs d r]
end
theorem sN_pos (d : Int) (n : NodeL) : (sN d n).pos = n.pos + d := by obtain ⟨a, b, c, e, f⟩ := n; rfl

/-- Behind items that are read the reading goes on. -/
theorem go_app : ∀ (l m : List NodeL) (out : List CalL), (readGo out l).err = 0 → readGo out (l ++ m) = readGo (readGo out l).cals m
  | [], m, out, _ => rfl
  | n :: r, m, out, h => by
    rw [List.cons_append]
    by_cases h1 : out.length = 32
    · rw [readGo_long _ _ _ h1] at h; cases h
    · by_cases h2 : (readC n).err = 0
      case neg => rw [readGo_bad _ _ _ h1 h2] at h; exact absurd h h2
      cases h3 : (out.map CalL.name).contains (readC n).cal.name with
      | true => rw [readGo_twice _ _ _ h1 h2 h3] at h; cases h
      | false =>
        rw [readGo_on _ _ _ h1 h2 h3] at h ⊢
        rw [readGo_on _ _ _ h1 h2 h3]
        exact go_app r m _ h
/-- Items that are read by themselves, moved, behind calendars that were read. -/
theorem go_two (d E : Int) (hd : 0 < d) : ∀ (m : List NodeL) (out done : List CalL), (∀ n ∈ m, (readC n).err = 0) → inNs E m → (readGo done m).err = 0 → out.length ≤ 32 →
    let R := readGo (out ++ done) (sNs d m)
    let C := m.map fun n => (readC n).cal
    out.length + done.length ≤ 32 →
    (R.err = 0 ∧ R.pos = 0 ∧ R.cals = out ++ done ++ C ∧ out.length + done.length + m.length ≤ 32 ∧ (∀ x ∈ out, ∀ y ∈ C, x.name ≠ y.name)) ∨
    (R.err = 6 ∧ d ≤ R.pos ∧ R.cals = [] ∧ 32 < out.length + done.length + m.length) ∨
    (R.err = 9 ∧ d ≤ R.pos ∧ R.cals = [] ∧ ∃ x ∈ out, ∃ y ∈ C, x.name = y.name)
  | [], out, done, _, _, _, _ => by
    intro R C h32
    exact .inl ⟨rfl, rfl, by simp [R, C, sNs, readGo], by simpa using h32, by simp [C]⟩
  | n :: r, out, done, hm, hi, hg, ho => by
    intro R C h32
    simp only [inNs] at hi
    have hp := inN_pos hi.1
    have hn := hm n (by simp)
    obtain ⟨ra, rb⟩ := read_alike (sN d n) n (zN_sN d n)
    rw [hn] at rb
    have hR : R = readGo (out ++ done) (sN d n :: sNs d r) := by simp only [R, sNs]
    by_cases h1 : (out ++ done).length = 32
    · rw [readGo_long _ _ _ h1] at hR
      refine .inr (.inl ⟨by rw [hR], by rw [hR]; simp only [sN_pos]; omega, by rw [hR], ?_⟩)
      rw [List.length_append] at h1
      simp only [List.length_cons]; omega
    · have h1' : out.length + done.length < 32 := by rw [List.length_append] at h1; omega
      -- by itself
      have hdl : done.length ≠ 32 := by omega
      have hc2 : (done.map CalL.name).contains (readC n).cal.name = false := by
        cases hc : (done.map CalL.name).contains (readC n).cal.name with
        | false => rfl
        | true => rw [readGo_twice _ _ _ hdl hn hc] at hg; cases hg
      rw [readGo_on _ _ _ hdl hn hc2] at hg
      cases h2 : ((out ++ done).map CalL.name).contains (readC n).cal.name with
      | true =>
        rw [readGo_twice _ _ _ h1 rb (by rw [ra]; exact h2)] at hR
        refine .inr (.inr ⟨by rw [hR], by rw [hR]; simp only [sN_pos]; omega, by rw [hR], ?_⟩)
        simp only [List.map_append, List.contains_eq_mem, List.mem_append, decide_eq_true_eq, decide_eq_false_iff_not] at h2 hc2
        rcases h2 with h2 | h2
        · obtain ⟨x, hx, he⟩ := List.mem_map.1 h2
          exact ⟨x, hx, (readC n).cal, by simp [C], he⟩
        · exact absurd h2 hc2
      | false =>
        rw [readGo_on _ _ _ h1 rb (by rw [ra]; exact h2), ra, List.append_assoc] at hR
        have ih := go_two d E hd r out (done ++ [(readC n).cal]) (fun x hx => hm x (by simp [hx])) hi.2 hg ho (by rw [List.length_append, List.length_singleton]; omega)
        simp only [List.length_append, List.length_singleton] at ih
        have hCc : C = (readC n).cal :: r.map fun n => (readC n).cal := by simp [C]
        have hne : ∀ x ∈ out, x.name ≠ (readC n).cal.name := by
          intro x hx he
          simp only [List.map_append, List.contains_eq_mem, List.mem_append, decide_eq_false_iff_not, not_or] at h2
          exact h2.1 (List.mem_map.2 ⟨x, hx, he⟩)
        rw [hR, hCc]
        rcases ih with ⟨a, b, c, e, f⟩ | ⟨a, b, c, e⟩ | ⟨a, b, c, x, hx, y, hy, e⟩
        · refine .inl ⟨a, b, by rw [c]; simp, by simp only [List.length_cons]; omega, fun x hx y hy => ?_⟩
          rcases List.mem_cons.1 hy with rfl | hy
          · exact hne x hx
          · exact f x hx y hy
        · exact .inr (.inl ⟨a, b, c, by simp only [List.length_cons]; omega⟩)
        · exact .inr (.inr ⟨a, b, c, x, hx, y, by simp [hy], e⟩)
/-- Two texts that are read, read one behind the other. -/
theorem conf_two (s t : Bytes) (hs : s.length ≤ 2000) (ht : t.length ≤ 2000) (he : (confRead s).err = 0) (hf : (confRead t).err = 0)
    (hs1 : (treeL s).err = 0 ∧ (confRead s).cals = (treeL s).nodes.map (fun n => (readC n).cal) ∧ (treeL s).nodes.length ≤ 32)
    (ht1 : (treeL t).err = 0 ∧ (confRead t).cals = (treeL t).nodes.map (fun n => (readC n).cal) ∧ ∀ n ∈ (treeL t).nodes, (readC n).err = 0) :
    let R := confRead (s ++ 10 :: t)
    let A := (confRead s).cals
    let C := (confRead t).cals
    (R.err = 0 ∧ R.pos = 0 ∧ R.cals = A ++ C ∧ A.length + C.length ≤ 32 ∧ (∀ x ∈ A, ∀ y ∈ C, x.name ≠ y.name)) ∨
    (R.err = 6 ∧ (s.length : Int) < R.pos ∧ R.cals = [] ∧ 32 < A.length + C.length) ∨
    (R.err = 9 ∧ (s.length : Int) < R.pos ∧ R.cals = [] ∧ ∃ x ∈ A, ∃ y ∈ C, x.name = y.name) := by
  intro R A C
  obtain ⟨s1, s2, s3⟩ := hs1
  obtain ⟨t1, t2, t3⟩ := ht1
  have hR : R = readGo A (sNs ((s.length + 1 : Nat) : Int) (treeL t).nodes) := by
    have h1 : confRead s = readGo [] (treeL s).nodes := by unfold confRead; rw [if_neg (by simp [s1])]
    have h2 : R = readGo [] ((treeL s).nodes ++ sNs ((s.length + 1 : Nat) : Int) (treeL t).nodes) := by
      simp only [R]
      unfold confRead
      rw [two_treeG s t hs ht s1 t1, if_neg (by simp)]
    rw [h2, go_app _ _ _ (by rw [← h1]; exact he), ← h1]
  have hA : A.length ≤ 32 := by simp only [A]; rw [s2, List.length_map]; exact s3
  have hC : C.length = (treeL t).nodes.length := by simp only [C]; rw [t2, List.length_map]
  have hg : (readGo [] (treeL t).nodes).err = 0 := by
    have : confRead t = readGo [] (treeL t).nodes := by unfold confRead; rw [if_neg (by simp [t1])]
    rw [← this]; exact hf
  have h := go_two ((s.length + 1 : Nat) : Int) t.length (by omega) (treeL t).nodes A [] t3 (tree_in t) hg hA (by simpa using hA)
  simp only [List.append_nil, List.length_nil, Nat.add_zero] at h
  rw [← hR, ← t2, ← hC] at h
  rcases h with h | ⟨a, b, c, d⟩ | ⟨a, b, c, d⟩
  · exact .inl h
  · exact .inr (.inl ⟨a, by omega, c, d⟩)
  · exact .inr (.inr ⟨a, by omega, c, d⟩)
end Go.Proofs.Ytjbniichcopnlaa
end

section
/- append onto a row of the call's own, from a slice that reads as a list (nil and empty let in). Over any program. -/
namespace Go.Proofs.Ytjbniichcopnlaa
open Go.RowKit

theorem run_append_reads {P : Program} {w : World} (base : Nat) (t ty e : TypeId) (i : TypeInfo) (z : Value) (size bytes : Nat) (ht : P.underlying t = some (.slice e)) (hi : P.info? e = some i) (hz : i.zero = some z)
    (hsize : i.size = size) (hby : i.bytes = bytes) (hzs : z.cells.size = size) (hsz : 0 < size)
    (v : Value) (n : Nat) (xs : List Value) (hown : w.ownsRow base e size v n xs)
    (A : Option Addr) (m c B : Nat) (news : List Value) (hr : Reads w B size A m news) (hnil : A = none → c = 0) (h1 : ∀ u ∈ news, u.oneCell' = true)
    (h63 : n + m ≤ maxLen) (hbytes : (n + m) * bytes ≤ 140737488355328) (hbase : base ≤ w.heap.size) :
    ∃ v' w', (Builtin.append_ #[t, t] ty #[v, .slice A m c]).run P w = .ok v' w' ∧ w'.ownsRow base e size v' (n + m) (xs ++ news) ∧ w.grownBy w' v.ownBlock := by
  cases A with
  | some ad =>
    have hnews : ∀ j u, news[j]? = some u → w.cell? (ad.add j) = some u := by
      intro j u hu
      by_cases hm : 0 < m
      · obtain ⟨ad', h, _, hc⟩ := hr.2 hm
        cases h
        exact hc j u hu
      · have : news = [] := List.eq_nil_of_length_eq_zero (by rw [hr.1, Nat.eq_zero_of_not_pos hm, Nat.zero_mul])
        subst this; simp at hu
    obtain ⟨v', w', h, ho, hg, _⟩ := run_append_own (P := P) w base t ty e i z size bytes ht hi hz hsize hby hzs hsz v n xs hown ad m c news hr.1 hnews h1 h63 hbytes hbase
    exact ⟨v', w', h, ho, hg⟩
  | none =>
    have hm : m = 0 := by
      rcases Nat.eq_zero_or_pos m with h | h
      · exact h
      · obtain ⟨_, h', _⟩ := hr.2 h; cases h'
    subst hm
    have : news = [] := List.eq_nil_of_length_eq_zero (by rw [hr.1]; simp)
    subst this
    obtain rfl := hnil rfl
    refine ⟨v, w, run_append_owned_none w base t ty e i size ht hi v n xs hown, by simpa using hown, rfl, rfl, rfl, Nat.le_refl _, fun _ _ _ => rfl⟩

/-- An append whose run is known, guarded or not. -/
theorem wpList_append_run {P : Program} {w : World} {ops : Array Oper} {rest : List Oper} {o : Oper} {a : Act} {Q : Exit → Act → World → Prop} (s x : Operand) (t : TypeId)
    (ho : o.op = .call { callee := .builtin .append, args := #[s, x], argTypes := #[t, t] }) (hg : Region.wanted o (yielded ops a.tmps) = true) (v1 v2 : Value) (hs : a.eval s = v1) (hx : a.eval x = v2)
    (ty : TypeId) (hty : o.type = ty) (v' : Value) (w' : World) (hrun : (Builtin.append_ #[t, t] ty #[v1, v2]).run P w = .ok v' w') (h : wpList P ops Q rest (a.put o.dst v') w') : wpList P ops Q (o :: rest) a w := by
  refine wpList_step fun K hK => ?_
  simp only [hg, if_true]
  unfold Oper.wp execOp
  simp only [ho, resolve, invoke, builtin, Sem.run_bind, Sem.run_pure, Result.andThen_ok, List.map_toArray, List.map_cons, List.map_nil, hs, hx, hty, hrun]
  exact hK _ _ h

end Go.Proofs.Ytjbniichcopnlaa
end

section
/- Layer 12 (conf): the walk of the reference's Same. -/
set_option linter.unusedVariables false
set_option linter.unusedSimpArgs false
namespace Go.Proofs.Ytjbniichcopnlaa
open Go.RowKit

theorem info_calL : (Try.prog.info? 31).map (fun i => (i.zero, i.size, i.bytes)) = some (some (.agg #[.string ⟨#[]⟩, .int .i64 0, .int .i64 0, .int .i64 0, .int .i64 0, .int .i64 0, .int .i64 0, .int .i64 0, .int .i64 0, .int .i64 0, .int .i64 0, .int .i64 0, .int .i64 0, .int .i64 0]), 14, 120) := by kernel_rfl
theorem own_cals_reads {w : World} {base : Nat} {v : Value} {l : List CalL} (h : OwnCals w base v l) : ∃ A cap, v = .slice A l.length cap ∧ NilOk A cap ∧ ReadsM w (· < w.heap.size) 14 A l.length (l.flatMap CalL.cc) := by
  have h0 := h
  unfold OwnCals at h
  obtain ⟨A, cap, rfl, hr⟩ := own_readsC h0
  refine ⟨A, cap, rfl, ?_, hr⟩
  rcases h.2 with ⟨he, hn⟩ | ⟨g, cap', cur, he, _⟩
  · simp only [Value.slice.injEq] at he; exact fun _ => he.2.2
  · simp only [Value.slice.injEq] at he; intro h; rw [he.1] at h; cases h
theorem cc_one (l : List CalL) : ∀ u ∈ l.flatMap CalL.cc, u.oneCell' = true := by
  intro u hu
  obtain ⟨c, _, hc⟩ := List.mem_flatMap.1 hu
  exact cells_one c u hc
/-- Calendars put behind a row of the call's own. -/
theorem wpList_behindC {w : World} {ops : Array Oper} {rest : List Oper} {o : Oper} {a : Act} {Q : Exit → Act → World → Prop} (s x : Operand)
    (ho : o.op = .call { callee := .builtin .append, args := #[s, x], argTypes := #[23, 23] }) (base : Nat) (v : Value) (l m : List CalL) (hs : a.eval s = v) (hown : OwnCals w base v l)
    (A : Option Addr) (c : Nat) (hx : a.eval x = .slice A m.length c) (hm : ReadsM w (· < base) 14 A m.length (m.flatMap CalL.cc)) (hnil : NilOk A c) (hnm : l.length + m.length ≤ 100000) (hbase : base ≤ w.heap.size) (hwn : Region.wanted o (yielded ops a.tmps) = true)
    (h : ∀ v' w', OwnCals w' base v' (l ++ m) → Below base w w' → wpList Try.prog ops Q rest (a.put o.dst v') w') : wpList Try.prog ops Q (o :: rest) a w := by
  obtain ⟨j0, hj0, hy0, hy1, hy2⟩ := info_parts info_calL
  obtain ⟨v', w', hrun, h5, h6⟩ := run_append_reads (P := Try.prog) (w := w) base 23 o.type 31 j0 _ 14 120 Try.underlying23 hj0 hy0 hy1 hy2 rfl (by decide) v l.length _ hown A m.length c base _ hm.reads hnil (cc_one m) (by unfold maxLen; omega) (by omega) hbase
  have hb : Below base w w' := (Below.refl base w).grown h6 hbase (fun k hk => (hown.lt k hk).1)
  refine wpList_append_run s x 23 ho hwn v _ hs hx o.type rfl v' w' hrun (h v' w' ?_ hb)
  unfold OwnCals
  rw [List.length_append, List.flatMap_append]
  exact h5

theorem same_step (l m : List CalL) (k : Nat) (a b : CalL) (ha : l[k]? = some a) (hb : m[k]? = some b) : decide (l.drop k = m.drop k) = (decide (a = b) && decide (l.drop (k + 1) = m.drop (k + 1))) := by
  obtain ⟨h1, rfl⟩ := List.getElem?_eq_some_iff.1 ha
  obtain ⟨h2, rfl⟩ := List.getElem?_eq_some_iff.1 hb
  rw [Bool.eq_iff_iff, decide_eq_true_eq, Bool.and_eq_true, decide_eq_true_eq, decide_eq_true_eq, List.drop_eq_getElem_cons h1, List.drop_eq_getElem_cons h2, List.cons.injEq]

set_option maxRecDepth 100000 in
set_option maxHeartbeats 2000000 in
theorem ref12_Same (A1 A2 : Option Addr) (c1 c2 : Nat) (l m : List CalL) (w : World) (h1 : ReadsM w (· < w.heap.size) 14 A1 l.length (l.flatMap CalL.cc)) (h2 : ReadsM w (· < w.heap.size) 14 A2 m.length (m.flatMap CalL.cc)) (hl : l.length ≤ maxLen) :
    Calls Try.prog 10 #[.slice A1 l.length c1, .slice A2 m.length c2] w fun e w' => e = .returned (.bool (decide (l = m))) ∧ Below w.heap.size w w' := by
  unfold maxLen at hl
  by_cases hlen : l.length = m.length
  · have hne : ((l.length : Int) != (m.length : Int)) = false := by rw [bne_eq_false_iff_eq]; omega
    have HL := Lib.hid hlen
    have H1 := Lib.hid h1
    have H2 := Lib.hid h2
    clear hlen h1 h2
    go_enter Try.func10, Try.ntmps10
    go_wp2_with fail
    go_loopw [13] (fun i wr => ∃ k : Nat, k ≤ l.length ∧ i = .int .i64 k ∧ Below w.heap.size w wr ∧ decide (l = m) = decide (l.drop k = m.drop k)) (fun i _ => l.length - (intOf i).toNat)
    case atStart => exact ⟨0, Nat.zero_le _, rfl, Below.refl _ _, rfl⟩
    case round =>
      obtain ⟨k, hk, rfl, hB, htk⟩ := hrel
      have hbs := hB.size
      by_cases hlt : k < l.length
      · obtain ⟨a, ha⟩ : ∃ a, l[k]? = some a := ⟨_, List.getElem?_eq_getElem hlt⟩
        obtain ⟨b, hb⟩ : ∃ b, m[k]? = some b := ⟨_, List.getElem?_eq_getElem (by rw [← HL.out]; exact hlt)⟩
        have hlt2 : k < m.length := by rw [← HL.out]; exact hlt
        obtain ⟨ad, hA1, hb1, p⟩ := cal_at (H1.out.keep (w' := wr) (M' := (· < w.heap.size)) (fun _ h => h) fun p hp => hB.cell hp) k a ha
        obtain ⟨bd, hA2, hb2, q⟩ := cal_at (H2.out.keep (w' := wr) (M' := (· < w.heap.size)) (fun _ h => h) fun p hp => hB.cell hp) k b hb
        subst hA1
        subst hA2
        rw [same_step l m k a b ha hb] at htk
        have hneq := fun W => run_neqCal W a b
        have HT := Lib.hid htk
        obtain ⟨p0, p1, p2, p3, p4, p5, p6, p7, p8, p9, p10, p11, p12, p13⟩ := p
        obtain ⟨q0, q1, q2, q3, q4, q5, q6, q7, q8, q9, q10, q11, q12, q13⟩ := q
        unfold CalL.cc at hneq
        have HBL := Lib.hid hB
        clear htk ha hb hB hb1 hb2
        cases hab : decide (a = b)
        · simp only [hab] at hneq
          rw [hab, Bool.false_and] at HT
          go_wp2_with fail
          go_quiet (fail)
          go_wp2_with fail
          go_ret
          exact ⟨ret_bool (by rw [HT.out]), below_drewN HBL.out _⟩
        · simp only [hab] at hneq
          rw [hab, Bool.true_and] at HT
          clear hab
          go_wp2_with fail
          go_quiet (fail)
          go_wp2_with fail
          exact ⟨⟨k + 1, by omega, by go_num, below_drewN HBL.out _, HT.out⟩, by simp [intOf]; omega⟩
      · have hkl : k = l.length := by omega
        have hlm : decide (l = m) = true := by
          rw [htk, List.drop_eq_nil_of_le (by omega), List.drop_eq_nil_of_le (by rw [← HL.out]; omega)]; rfl
        have HLM := Lib.hid hlm
        clear hlm hkl htk
        go_wp2_with fail
        go_ret
        exact ⟨ret_bool (by rw [HLM.out]), hB⟩
  · have hne : ((l.length : Int) != (m.length : Int)) = true := by rw [bne_iff_ne]; omega
    have HX := Lib.hid (show decide (l = m) = false from decide_eq_false fun e => hlen (by rw [e]))
    go_enter Try.func10, Try.ntmps10
    go_wp2_with fail
    go_ret
    exact ⟨ret_bool (by rw [HX.out]), Below.refl _ _⟩

end Go.Proofs.Ytjbniichcopnlaa
end

section
/- The law ConfTwo walked: it answers true at any two texts. -/
set_option linter.unusedVariables false
set_option linter.unusedSimpArgs false
set_option maxRecDepth 100000
namespace Go.Proofs.Ytjbniichcopnlaa
open Go.RowKit

set_option maxHeartbeats 4000000 in
theorem walk_ConfTwo (s t : ByteArray) (w : World) (hs : s.size ≤ maxLen) (ht : t.size ≤ maxLen) :
    Calls Try.prog 4 #[.string s, .string t] w fun e w' => e = .returned (.bool true) ∧ Below w.heap.size w w' := by
  have hs' := hs
  have ht' := ht
  unfold maxLen at hs' ht'
  have HV := Lib.hid (law12_live w)
  by_cases hbig : 1000 < s.size ∨ 1000 < t.size
  · by_cases hb1 : 1000 < s.size
    · clear hbig
      go_enter Try.func4, Try.ntmps4
      go_wp2_with fail
      refine HV.out.mono ?_
      rintro e w1 ⟨rfl, hb1⟩
      go_wp2_with fail
      go_ret
      exact ⟨rfl, hb1⟩
    · have hb2 : 1000 < t.size := hbig.resolve_left hb1
      clear hbig
      go_enter Try.func4, Try.ntmps4
      go_wp2_with fail
      refine HV.out.mono ?_
      rintro e w1 ⟨rfl, hb1⟩
      go_wp2_with fail
      go_ret
      exact ⟨rfl, hb1⟩
  have hs1 : s.size ≤ 1000 := by omega
  have ht1 : t.size ≤ 1000 := by omega
  clear hbig
  obtain ⟨si1, si2⟩ := text_in s.data.toList (by rw [ba_len]; omega)
  obtain ⟨ti1, ti2⟩ := text_in t.data.toList (by rw [ba_len]; omega)
  have HRS := Lib.hid (fun W => conf_Read s W hs si1 si2)
  have HRT := Lib.hid (fun W => conf_Read t W ht ti1 ti2)
  obtain ⟨cf1, cf2⟩ := conf_facts s.data.toList
  obtain ⟨df1, df2⟩ := conf_facts t.data.toList
  obtain ⟨U, hU⟩ : ∃ U : ByteArray, U = s ++ ⟨#[10]⟩ ++ t := ⟨_, rfl⟩
  have hUl : U.data.toList = s.data.toList ++ 10 :: t.data.toList := by rw [hU, ByteArray.data_append, Array.toList_append, ByteArray.data_append, Array.toList_append]; simp
  have hUs : U.size ≤ 2001 := by rw [← ba_len, hUl, List.length_append, List.length_cons, ba_len, ba_len]; omega
  obtain ⟨ui1, ui2⟩ := text_in U.data.toList (by rw [ba_len]; omega)
  have HRU := Lib.hid (fun W => conf_Read U W (by unfold maxLen; omega) ui1 ui2)
  have hsl := ba_len s
  have htl := ba_len t
  have HTWO := Lib.hid (show (confRead s.data.toList).err = 0 → (confRead t.data.toList).err = 0 → _ from fun he hf => conf_two s.data.toList t.data.toList (by omega) (by omega) he hf ⟨(cf2 he).2.1, (cf2 he).2.2.1, (cf2 he).2.2.2.2⟩ ⟨(df2 hf).2.1, (df2 hf).2.2.1, (df2 hf).2.2.2.1⟩)
  rw [hsl, ← hUl] at HTWO
  have HLA := Lib.hid (show (confRead s.data.toList).err = 0 → (confRead s.data.toList).cals.length ≤ 32 from fun he => by rw [(cf2 he).2.2.1, List.length_map]; exact (cf2 he).2.2.2.2)
  have HLC := Lib.hid (show (confRead t.data.toList).err = 0 → (confRead t.data.toList).cals.length ≤ 32 from fun he => by rw [(df2 he).2.2.1, List.length_map]; exact (df2 he).2.2.2.2)
  clear si1 si2 ti1 ti2 ui1 ui2 cf2 df2 hUl hUs hsl htl
  generalize confRead s.data.toList = RA at *
  generalize confRead t.data.toList = RC at *
  generalize confRead U.data.toList = RU at *
  obtain ⟨A, pa, ea⟩ := RA
  obtain ⟨C, pc, ec⟩ := RC
  obtain ⟨D, at_, g⟩ := RU
  simp only at HTWO HLA HLC cf1 df1 HRS HRT HRU
  by_cases he : ea = 0
  case neg =>
    have hA := cf1 he
    subst hA
    have hne : (ea == 0) = false := beq_false_of_ne he
    clear HTWO HLA HLC cf1 df1 HRU hU he
    go_enter Try.func4, Try.ntmps4
    go_wp2_with fail
    refine HV.out.mono ?_
    rintro e w1 ⟨rfl, hb1⟩
    have HB1 := Lib.hid hb1
    clear hb1
    go_wp2_with fail
    refine (HRS.out w1).mono ?_
    rintro e w2 ⟨v2, rfl, hown2, hb2⟩
    obtain ⟨A2, c2, rfl, _⟩ := own_form hown2
    have HB2 := Lib.hid (HB1.out.trans (hb2.mono HB1.out.size))
    clear hown2 hb2
    dsimp only [List.length_nil]
    go_wp2_with fail
    refine (HRT.out w2).mono ?_
    rintro e w3 ⟨v3, rfl, hown3, hb3⟩
    obtain ⟨A3, c3, rfl, _⟩ := own_form hown3
    have HB3 := Lib.hid (HB2.out.trans (hb3.mono HB2.out.size))
    clear hown3 hb3
    dsimp only
    go_wp2_with fail
    go_ret
    exact ⟨by first | rfl | exact ret_bool (by simp), HB3.out⟩
  subst he
  by_cases hf : ec = 0
  case neg =>
    have hA := df1 hf
    subst hA
    have hne : (ec == 0) = false := beq_false_of_ne hf
    clear HTWO HLA HLC cf1 df1 HRU hU hf
    have hlz : ((A.length : Int) == 0) = true ∨ ((A.length : Int) == 0) = false := by cases ((A.length : Int) == 0) <;> simp
    go_enter Try.func4, Try.ntmps4
    go_wp2_with fail
    refine HV.out.mono ?_
    rintro e w1 ⟨rfl, hb1⟩
    have HB1 := Lib.hid hb1
    clear hb1
    go_wp2_with fail
    refine (HRS.out w1).mono ?_
    rintro e w2 ⟨v2, rfl, hown2, hb2⟩
    obtain ⟨A2, c2, rfl, _⟩ := own_form hown2
    have HB2 := Lib.hid (HB1.out.trans (hb2.mono HB1.out.size))
    clear hown2 hb2
    dsimp only
    go_wp2_with fail
    refine (HRT.out w2).mono ?_
    rintro e w3 ⟨v3, rfl, hown3, hb3⟩
    obtain ⟨A3, c3, rfl, _⟩ := own_form hown3
    have HB3 := Lib.hid (HB2.out.trans (hb3.mono HB2.out.size))
    clear hown3 hb3
    dsimp only [List.length_nil]
    rcases hlz with hlz | hlz
    · go_wp2_with fail
      go_ret
      exact ⟨by first | rfl | exact ret_bool (by simp), HB3.out⟩
    · go_wp2_with fail
      go_ret
      exact ⟨by first | rfl | exact ret_bool (by simp), HB3.out⟩
  subst hf
  have hla := HLA.out rfl
  have hlc := HLC.out rfl
  have HT2 := Lib.hid (HTWO.out rfl rfl)
  clear HTWO HLA HLC cf1 df1
  go_enter Try.func4, Try.ntmps4
  go_wp2_with fail
  refine HV.out.mono ?_
  rintro e w1 ⟨rfl, hb1⟩
  have HB1 := Lib.hid hb1
  clear hb1
  go_wp2_with fail
  refine (HRS.out w1).mono ?_
  rintro e w2 ⟨v2, rfl, hown2, hb2⟩
  obtain ⟨A2, c2, rfl, hnil2, hr2⟩ := own_cals_reads hown2
  have HR2 := Lib.hid (And.intro hnil2 hr2)
  have HB2 := Lib.hid (HB1.out.trans (hb2.mono HB1.out.size))
  clear hown2 hb2 hnil2 hr2
  dsimp only
  go_wp2_with fail
  refine (HRT.out w2).mono ?_
  rintro e w3 ⟨v3, rfl, hown3, hb3⟩
  obtain ⟨A3, c3, rfl, hnil3, hr3⟩ := own_cals_reads hown3
  have HR3 := Lib.hid (And.intro hnil3 hr3)
  have HB23 := Lib.hid hb3
  have HB3 := Lib.hid (HB2.out.trans (hb3.mono HB2.out.size))
  clear hown3 hb3 hnil3 hr3
  dsimp only
  go_wp2_with fail
  rw [← hU]
  refine (HRU.out w3).mono ?_
  rintro e w4 ⟨v4, rfl, hown4, hb4⟩
  obtain ⟨A4, c4, rfl, hnil4, hr4⟩ := own_cals_reads hown4
  have HR4 := Lib.hid (And.intro hnil4 hr4)
  have HB34 := Lib.hid hb4
  have HB4 := Lib.hid (HB3.out.trans (hb4.mono HB3.out.size))
  clear hown4 hb4 hnil4 hr4
  dsimp only
  go_wp2_with fail
  have hz23 := HB23.out.size
  have hz34 := HB34.out.size
  clear HRS HRT HRU HV hU
  go_loopw [65] (fun iv wr => ∃ q : Nat, q ≤ A.length ∧ iv = .int .i64 q ∧ Below w4.heap.size w4 wr ∧ ∀ i, i < q → ∀ x, A[i]? = some x → ∀ y ∈ C, x.name ≠ y.name) (fun iv _ => A.length - (intOf iv).toNat)
  case atStart => exact ⟨0, Nat.zero_le _, rfl, Below.refl _ _, fun i hi => absurd hi (Nat.not_lt_zero i)⟩
  case round =>
    obtain ⟨q, hq, rfl, hbw, hno⟩ := hrel
    have hzw := hbw.size
    have HNO := Lib.hid hno
    clear hno
    by_cases hlt : q < A.length
    · obtain ⟨x, hx⟩ : ∃ n, A[q]? = some n := ⟨_, List.getElem?_eq_getElem hlt⟩
      have hk2 : ∀ p : Addr, p.block < w2.heap.size → wr.cell? p = w2.cell? p := fun p hp => (hbw.cell (by omega)).trans ((HB34.out.cell (by omega)).trans (HB23.out.cell hp))
      obtain ⟨ad2, hA2, hM2, hc14⟩ := cal_at (HR2.out.2.keep (w' := wr) (M' := (· < w2.heap.size)) (fun _ h => h) hk2) q x hx
      subst hA2
      obtain ⟨x0', hx0'⟩ : ∃ z, z = x := ⟨_, rfl⟩
      have HX := Lib.hid (And.intro hx hx0')
      obtain ⟨nm, kind, day, month, shift, shape, p0, p1, p2, cycle, extra, first, last, policy⟩ := x
      obtain ⟨x0, x1, x2, x3, x4, x5, x6, x7, x8, x9, x10, x11, x12, x13⟩ := hc14
      dsimp only at x0 x1 x2 x3 x4 x5 x6 x7 x8 x9 x10 x11 x12 x13
      have lk : (q : Int) < A.length := by omega
      have lk0 : (0 : Int) ≤ q := by omega
      have w1f : IntKind.i64.wrap ((q : Int) + 1) = (q : Int) + 1 := by rw [IntKind.wrap_i64]; omega
      have HNEW := Lib.hid (heap_alloc_new wr (.cells #[.string ⟨nm.toArray⟩, .int .i64 kind, .int .i64 day, .int .i64 month, .int .i64 shift, .int .i64 shape, .int .i64 p0, .int .i64 p1, .int .i64 p2, .int .i64 cycle, .int .i64 extra, .int .i64 first, .int .i64 last, .int .i64 policy] 31))
      have HBN := Lib.hid (hbw.alloc hzw (.cells #[.string ⟨nm.toArray⟩, .int .i64 kind, .int .i64 day, .int .i64 month, .int .i64 shift, .int .i64 shape, .int .i64 p0, .int .i64 p1, .int .i64 p2, .int .i64 cycle, .int .i64 extra, .int .i64 first, .int .i64 last, .int .i64 policy] 31))
      obtain ⟨nb, hnb⟩ : ∃ g, g = wr.heap.size := ⟨_, rfl⟩
      have HNB := Lib.hid hnb
      have hnbl : nb < (wr.alloc (.cells #[.string ⟨nm.toArray⟩, .int .i64 kind, .int .i64 day, .int .i64 month, .int .i64 shift, .int .i64 shape, .int .i64 p0, .int .i64 p1, .int .i64 p2, .int .i64 cycle, .int .i64 extra, .int .i64 first, .int .i64 last, .int .i64 policy] 31)).heap.size := by rw [hnb]; simp
      clear hx hx0' hbw hk2 hM2 hnb
      go_upto_region 13 with fail
      rw [← HNB.out]
      have hnew := HNEW.out
      rw [← HNB.out] at hnew
      have hbn := HBN.out
      clear HNEW HBN
      generalize World.alloc wr _ = w5 at *
      have HBN := Lib.hid hbn
      have HNEW := Lib.hid (show w5.cell? ⟨nb, 0, none⟩ = some (.string ⟨nm.toArray⟩) from Joins.cell_of_block hnew 0)
      clear hbn hnew x0 x1 x2 x3 x4 x5 x6 x7 x8 x9 x10 x11 x12 x13 HNB
      go_wp2_with fail
      have hz45 := HBN.out.size
      have w2f : IntKind.i64.wrap ((A.length : Int) + C.length) = (A.length : Int) + C.length := by rw [IntKind.wrap_i64]; omega
      go_loopw [71] (fun jv wx => ∃ r : Nat, r ≤ C.length ∧ jv = .int .i64 r ∧ Below w5.heap.size w5 wx ∧ ∀ i, i < r → ∀ y, C[i]? = some y → nm ≠ y.name) (fun jv _ => C.length - (intOf jv).toNat)
      case atStart => exact ⟨0, Nat.zero_le _, rfl, Below.refl _ _, fun i hi => absurd hi (Nat.not_lt_zero i)⟩
      case round =>
        obtain ⟨r, hr, rfl, hbx, hno⟩ := hrel
        have hzx := hbx.size
        have HNI := Lib.hid hno
        clear hno
        by_cases hlt2 : r < C.length
        · obtain ⟨y, hy⟩ : ∃ n, C[r]? = some n := ⟨_, List.getElem?_eq_getElem hlt2⟩
          have hk3 : ∀ p : Addr, p.block < w3.heap.size → wr.cell? p = w3.cell? p := fun p hp => (hbx.cell (by omega)).trans ((HBN.out.cell (by omega)).trans (HB34.out.cell (by omega)))
          obtain ⟨ad3, hA3, hM3, hc14⟩ := cal_at (HR3.out.2.keep (w' := wr) (M' := (· < w3.heap.size)) (fun _ h => h) hk3) r y hy
          subst hA3
          obtain ⟨y0', hy0'⟩ : ∃ z, z = y := ⟨_, rfl⟩
          have HY := Lib.hid (And.intro hy hy0')
          obtain ⟨ym, kind', day', month', shift', shape', p0', p1', p2', cycle', extra', first', last', policy'⟩ := y
          obtain ⟨x0, x1, x2, x3, x4, x5, x6, x7, x8, x9, x10, x11, x12, x13⟩ := hc14
          dsimp only at x0 x1 x2 x3 x4 x5 x6 x7 x8 x9 x10 x11 x12 x13
          have lr : (r : Int) < C.length := by omega
          have lr0 : (0 : Int) ≤ r := by omega
          have w3f : IntKind.i64.wrap ((r : Int) + 1) = (r : Int) + 1 := by rw [IntKind.wrap_i64]; omega
          have HNEW2 := Lib.hid (heap_alloc_new wr (.cells #[.string ⟨ym.toArray⟩, .int .i64 kind', .int .i64 day', .int .i64 month', .int .i64 shift', .int .i64 shape', .int .i64 p0', .int .i64 p1', .int .i64 p2', .int .i64 cycle', .int .i64 extra', .int .i64 first', .int .i64 last', .int .i64 policy'] 31))
          have HBN2 := Lib.hid (hbx.alloc hzx (.cells #[.string ⟨ym.toArray⟩, .int .i64 kind', .int .i64 day', .int .i64 month', .int .i64 shift', .int .i64 shape', .int .i64 p0', .int .i64 p1', .int .i64 p2', .int .i64 cycle', .int .i64 extra', .int .i64 first', .int .i64 last', .int .i64 policy'] 31))
          have HXN := Lib.hid (((hbx.alloc hzx (.cells #[.string ⟨ym.toArray⟩, .int .i64 kind', .int .i64 day', .int .i64 month', .int .i64 shift', .int .i64 shape', .int .i64 p0', .int .i64 p1', .int .i64 p2', .int .i64 cycle', .int .i64 extra', .int .i64 first', .int .i64 last', .int .i64 policy'] 31)).cell (p := ⟨nb, 0, none⟩) hnbl).trans HNEW.out)
          obtain ⟨yb, hyb⟩ : ∃ g, g = wr.heap.size := ⟨_, rfl⟩
          have HYB := Lib.hid hyb
          clear hy hy0' hbx hk3 hM3 hyb
          go_upto_region 16 with fail
          rw [← HYB.out]
          have hnew := HNEW2.out
          rw [← HYB.out] at hnew
          have hbn2 := HBN2.out
          have hxn := HXN.out
          clear HNEW2 HBN2 HXN
          generalize World.alloc wr _ = w6 at *
          have HBN6 := Lib.hid hbn2
          have hyn : w6.cell? ⟨yb, 0, none⟩ = some (.string ⟨ym.toArray⟩) := Joins.cell_of_block hnew 0
          clear hbn2 hnew x0 x1 x2 x3 x4 x5 x6 x7 x8 x9 x10 x11 x12 x13 HYB
          have HB6 := Lib.hid (HB4.out.trans ((HBN.out.trans (HBN6.out.mono hz45)).mono HB4.out.size))
          by_cases hg : nm = ym
          · have hgs : (nm == ym) = true := by rw [hg]; simp
            have hnot : ¬ (∀ x ∈ A, ∀ y ∈ C, x.name ≠ y.name) := fun h => by
              have h1 := List.mem_of_getElem? HX.out.1
              have h2 := List.mem_of_getElem? HY.out.1
              exact h _ h1 _ h2 hg
            have ht2 : (g = 6 ∧ (s.size : Int) < at_ ∧ D = [] ∧ 32 < A.length + C.length) ∨ (g = 9 ∧ (s.size : Int) < at_ ∧ D = []) := by
              rcases HT2.out with h | h | h
              · exact absurd h.2.2.2.2 hnot
              · exact .inl h
              · exact .inr ⟨h.1, h.2.1, h.2.2.1⟩
            clear hnot HT2 hg
            rcases ht2 with ⟨rfl, hat, rfl, h32⟩ | ⟨rfl, hat, rfl⟩
            · have h32' : (32 : Int) < (A.length : Int) + C.length := by omega
              dsimp only [List.length_nil]
              go_wp2_with fail
              go_ret
              exact ⟨by first | rfl | exact ret_bool (by simp), HB6.out⟩
            · dsimp only [List.length_nil]
              go_wp2_with fail
              go_ret
              exact ⟨by first | rfl | exact ret_bool (by simp), HB6.out⟩
          · have hgs : (nm == ym) = false := by simpa using hg
            have HG := Lib.hid hg
            clear hg
            go_wp2_with fail
            refine ⟨⟨r + 1, by omega, by go_num, HBN6.out, fun i hi z hz => ?_⟩, by simp [intOf]; omega⟩
            rcases Nat.lt_succ_iff_lt_or_eq.1 hi with hi | rfl
            · exact HNI.out i hi z hz
            · rw [HY.out.1] at hz
              cases hz
              exact HG.out
        · have lr : ¬ (r : Int) < C.length := by omega
          have HBX := Lib.hid (HBN.out.trans (hbx.mono hz45))
          clear hbx
          go_wp2_with fail
          refine ⟨⟨q + 1, by omega, by go_num, HBX.out, fun i hi z hz y hy => ?_⟩, by simp [intOf]; omega⟩
          rcases Nat.lt_succ_iff_lt_or_eq.1 hi with hi | rfl
          · exact HNO.out i hi z hz y hy
          · rw [HX.out.1] at hz
            cases hz
            obtain ⟨j, hj, rfl⟩ := List.mem_iff_getElem.1 hy
            exact HNI.out j (by omega) _ (List.getElem?_eq_getElem hj)
    · have lk : ¬ (q : Int) < A.length := by omega
      have hnot : ∀ x ∈ A, ∀ y ∈ C, x.name ≠ y.name := fun x hx y hy => by
        obtain ⟨j, hj, rfl⟩ := List.mem_iff_getElem.1 hx
        exact HNO.out j (by omega) _ (List.getElem?_eq_getElem hj) y hy
      have ht2 : (g = 0 ∧ at_ = 0 ∧ D = A ++ C ∧ A.length + C.length ≤ 32) ∨ (g = 6 ∧ (s.size : Int) < at_ ∧ 32 < A.length + C.length) := by
        rcases HT2.out with h | h | h
        · exact .inl ⟨h.1, h.2.1, h.2.2.1, h.2.2.2.1⟩
        · exact .inr ⟨h.1, h.2.1, h.2.2.2⟩
        · obtain ⟨x, hx, y, hy, e⟩ := h.2.2.2
          exact absurd e (hnot x hx y hy)
      have w2f : IntKind.i64.wrap ((A.length : Int) + C.length) = (A.length : Int) + C.length := by rw [IntKind.wrap_i64]; omega
      have HBW := Lib.hid hbw
      clear hnot HT2 hbw
      rcases ht2 with ⟨rfl, rfl, hD, h32⟩ | ⟨rfl, hat, h32⟩
      · have h32' : ¬ (32 : Int) < (A.length : Int) + C.length := by omega
        have HD := Lib.hid hD
        have hB2 := HB34.out.size
        have HK2 := Lib.hid (HR2.out.2.keep (w' := wr) (M' := (· < wr.heap.size)) (fun b h => by have := h; omega) (fun p hp => (HBW.out.cell (by omega)).trans ((HB34.out.cell (by omega)).trans (HB23.out.cell hp))))
        have HK3 := Lib.hid (HR3.out.2.keep (w' := wr) (M' := (· < wr.heap.size)) (fun b h => by have := h; omega) (fun p hp => (HBW.out.cell (by omega)).trans (HB34.out.cell (by omega))))
        have HK4 := Lib.hid (HR4.out.2.keep (w' := wr) (M' := (· < wr.heap.size)) (fun b h => by have := h; omega) (fun p hp => HBW.out.cell hp))
        clear hD
        go_wp2_with (first
          | (at_builtin; have hq := HR6; go_loud (refine wpList_behindC _ _ rfl wr.heap.size v6 A C rfl HR6.out A3 c3 rfl (HK3.out.keep (w' := w6) (M' := (· < wr.heap.size)) (fun _ h => h) (fun p hp => HB6.out.cell hp)) HR3.out.1 (by omega) HB6.out.size (by first | rfl | simp [Region.wanted, yielded]) ?_); intro v7 w7 hr7 hb7; have hb57 := HB6.out.trans hb7; obtain ⟨A9, c9, hv9, hn9, hr9⟩ := own_cals_reads hr7; subst hv9; have HB7 := Lib.hid hb57; have HR7 := Lib.hid hr9; clear hr7 hb7 hb57 hr9 hn9)
          | (at_builtin; go_loud (refine wpList_behindC _ _ rfl wr.heap.size (.slice none 0 0) [] A rfl (OwnCals.nil _ _) A2 c2 rfl HK2.out HR2.out.1 (by simp; omega) (Nat.le_refl _) (by first | rfl | simp [Region.wanted, yielded]) ?_); intro v6 w6 hr6 hb6; have HR6 := Lib.hid (show OwnCals w6 wr.heap.size v6 A from hr6); have HB6 := Lib.hid hb6; clear hr6 hb6)
          | fail)
        have hz7 := HB7.out.size
        have hsame := ref12_Same A4 A9 c4 c9 D (A ++ C) w7 (HK4.out.keep (w' := w7) (M' := (· < w7.heap.size)) (fun b h => by have := h; omega) (fun p hp => HB7.out.cell hp)) HR7.out (by rw [HD.out, List.length_append]; unfold maxLen; omega)
        rw [decide_eq_true HD.out, List.length_append] at hsame
        refine hsame.mono ?_
        rintro e8 w8 ⟨rfl, hb8⟩
        have HB8 := Lib.hid (HB4.out.trans (((HBW.out.trans (HB7.out.mono (by have := HBW.out.size; omega))).trans (hb8.mono (by have := HBW.out.size; omega))).mono HB4.out.size))
        clear hb8 hsame
        go_wp2_with fail
        go_ret
        exact ⟨by first | rfl | exact ret_bool (by simp), HB8.out⟩
      · have h32' : (32 : Int) < (A.length : Int) + C.length := by omega
        go_wp2_with fail
        go_ret
        exact ⟨by first | rfl | exact ret_bool (by simp), HB4.out.trans (HBW.out.mono HB4.out.size)⟩

end Go.Proofs.Ytjbniichcopnlaa
end

section
/- The row's last step over a walk that tells 'Below' alone. Over any program. -/
namespace Go.Proofs.Ytjbniichcopnlaa
open Go.RowKit Go.WideShapes Go.ChangeShapes

section
variable {H : Type} {enc : TypeId × Value → H} {P : Program}
theorem post_of_below {f : Func} {s : ChangeSpec} {apart fresh handsOn again : Bool} {W W' : World} {args : Array Value} {v : Value} {ds gs : List (DataW H)} {before pa pv : List MemPlace}
    (hW : DataW.Whole enc P f.params.toList s.vars apart W args.toList ds gs before)
    (hres : ∀ (b : Nat) (sp : Nat → Bool) (hd : Bool), DataW.TrodAll enc P W' b sp hd f.resultTypes.toList (v.resultList f.resultTypes.size) (s.fn H (ds ++ gs)).results [])
    (hargs : ∀ sp : Nat → Bool, (∀ p ∈ before, sp p.block = true) → DataW.TrodAll enc P W' 0 sp true f.params.toList args.toList (s.fn H (ds ++ gs)).args pa)
    (hvars : ∀ sp : Nat → Bool, (∀ p ∈ before, sp p.block = true) → DataW.TrodVars enc P W' sp s.vars (s.fn H (ds ++ gs)).vars pv)
    (hps : before = pa ++ pv) (hb : Below W.heap.size W W')
    (hok : ∀ (j : Nat) (t : TypeId) (r : Value), f.resultTypes[j]? = some t → (v.resultList f.resultTypes.size)[j]? = some r → Value.okWide P W' .any 0 t r) :
    s.post enc P f apart fresh handsOn again W args v W' := by
  have hlt : ∀ p ∈ before, p.block < W.heap.size := fun p hp => hW.lt p hp
  have hold : ∀ p ∈ before, (fun b => decide (b < W.heap.size)) p.block = true := fun p hp => by simpa using hlt p hp
  refine ⟨ds, gs, before, [], pa, pv, hW, hres _ _ _, hargs _ hold, hvars _ hold, World.keptBut_mono (fun p hp => ⟨hp, ?_⟩) (hb.frame (· ∈ before)), fun _ => ?_⟩
  · rw [hps, List.mem_append] at hp
    exact Or.inr hp
  · obtain ⟨_, _, _, _, _, hz, hn⟩ := hW
    refine ⟨hok, _, _, ([] ++ pa) ++ pv, ⟨[] ++ pa, pv, trodAll_append (hargs _ (fun _ _ => rfl)) (hres _ _ _), hvars _ (fun _ _ => rfl), rfl, ?_, ?_⟩, ?_⟩
    · intro b off hp
      have hin : MemPlace.cell b off ∈ before := by rw [hps]; simpa using hp
      rw [hb.frozen (hlt _ hin)]
      exact hz b off hin
    · intro ha
      have := hn ha
      rw [hps] at this
      simpa using this
    · intro p hp _
      rw [hps]
      simpa using hp
end
end Go.Proofs.Ytjbniichcopnlaa
end

section
/- The row's last step: the arguments read behind the call as they did, unopened, whatever their types. Over any program. -/
namespace Go.Proofs.Ytjbniichcopnlaa
open Go.RowKit Go.WideShapes Go.ChangeShapes Go.WideElems Go.ChangeAt

section
variable {H : Type} {enc : TypeId × Value → H} {P : Program}

/-- One closed fact: each parameter's type can be read and is a row of the table. -/
def paramsRowed (P : Program) (ts : List TypeId) : Bool := ts.all fun t => P.readableRec t && decide (t < P.types.size)

theorem trodAll_stay (hl : laidOutB P = true) {W W' : World} (hb : Below W.heap.size W W') : ∀ {ts : List TypeId} {vs : List Value} {ds : List (DataW H)} {ps : List MemPlace}, paramsRowed P ts = true →
    (∀ p ∈ ps, p.block < W.heap.size) → DataW.TrodAll enc P W 0 (fun _ => true) true ts vs ds ps →
    ∀ sp : Nat → Bool, (∀ p ∈ ps, sp p.block = true) → DataW.TrodAll enc P W' 0 sp true ts vs ds ps := by
  intro ts
  induction ts with
  | nil =>
    intro vs ds ps _ _ h sp _
    obtain ⟨rfl, rfl, rfl⟩ := trodAll_nil h
    exact trodAll_mk0
  | cons t ts ih =>
    intro vs ds ps hp hlt h sp hsp
    obtain ⟨v0, vs0, d0, ds0, p0, q0, rfl, rfl, rfl, h0, r0⟩ := trodAll_cons h
    simp only [paramsRowed, List.all_cons, Bool.and_eq_true, decide_eq_true_eq] at hp
    refine trodAll_cons_mk (Trod_stays hl hp.1.1 hp.1.2 h0 (fun p hx => hb.same (hlt p (by simp [hx]))) (fun p hx => hsp p (by simp [hx]))) (ih (by simpa [paramsRowed] using hp.2) (fun p hx => hlt p (by simp [hx])) r0 sp (fun p hx => hsp p (by simp [hx])))
end
end Go.Proofs.Ytjbniichcopnlaa
end
