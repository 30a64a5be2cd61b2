/- Layer 9 (tree): items that are read: the walks of Deep, and of Few. -/
import Derived.Test.YtaffbnjdlgcaiaaDoorTreeP7
import Derived.Test.YtaffbnjdlgcaiaaDoorTreeR0
set_option linter.unusedVariables false
set_option linter.unusedSimpArgs false
namespace Go.Proofs.YtaffbnjdlgcaiaaDoor
open Go.RowKit

/-- The slice reads as items, all they lead to below block B. -/
def ROk (w : World) (B : Nat) (A : Option Addr) (l : List NodeL) : Prop := ∃ cs, ReadsM w (· < B) 5 A l.length cs ∧ NodesOk w (· < B) l cs
theorem ROk.below {w w' : World} {B : Nat} {A : Option Addr} {l : List NodeL} (h : ROk w B A l) (hb : Below B w w') : ROk w' B A l := by
  obtain ⟨cs, h1, h2⟩ := h
  have hk : ∀ p : Addr, p.block < B → w'.cell? p = w.cell? p := fun p hp => hb.cell hp
  exact ⟨cs, h1.keep (fun _ h => h) hk, NodesOk.keep (fun _ h => h) hk _ _ h2⟩
theorem ROk.of_parse {w w' : World} {A : Option Addr} {l : List NodeL} {kcs : List Value} (h1 : ReadsM w' (fun b => w.heap.size ≤ b ∧ b < w'.heap.size) 5 A l.length kcs) (h2 : NodesOk w' (fun b => w.heap.size ≤ b ∧ b < w'.heap.size) l kcs) : ROk w' w'.heap.size A l :=
  ⟨kcs, h1.keep (fun _ h => h.2) (fun _ _ => rfl), NodesOk.keep (fun _ h => h.2) (fun _ _ => rfl) _ _ h2⟩
/-- The cells of item i, as a walk reads them. -/
theorem ROk.at {w : World} {B : Nat} {A : Option Addr} {l : List NodeL} (h : ROk w B A l) (i : Nat) (n : NodeL) (hi : l[i]? = some n) :
    ∃ ad Aw cw Ak ck, A = some ad ∧ ad.block < B ∧ w.cell? (ad.add (i * 5)) = some (.string ⟨n.name.toArray⟩) ∧ w.cell? ⟨(ad.add (i * 5)).block, (ad.add (i * 5)).off + 1, none⟩ = some (.int .i64 n.pos) ∧
      w.cell? ⟨(ad.add (i * 5)).block, (ad.add (i * 5)).off + 2, none⟩ = some (.slice Aw n.words.length cw) ∧ w.cell? ⟨(ad.add (i * 5)).block, (ad.add (i * 5)).off + 3, none⟩ = some (.bool n.block) ∧
      w.cell? ⟨(ad.add (i * 5)).block, (ad.add (i * 5)).off + 4, none⟩ = some (.slice Ak n.kids.length ck) ∧ ReadsM w (· < B) 4 Aw n.words.length (n.words.flatMap WordL.cells) ∧ ROk w B Ak n.kids := by
  obtain ⟨cs, h1, h2⟩ := h
  obtain ⟨ad, Aw, cw, Ak, ck, kcs, e, hM, c0, c1, c2, c3, c4, _, _, hw, hk, hkn⟩ := node_cells h1 h2 i n hi
  exact ⟨ad, Aw, cw, Ak, ck, e, hM, c0, c1, c2, c3, c4, hw, kcs, hk, hkn⟩

theorem deepL_cnt : ∀ l : List NodeL, deepL l ≤ cntL l
  | [] => Nat.le_refl _
  | .mk nm p ws b ks :: r => by
    have h1 := deepL_cnt ks
    have h2 := deepL_cnt r
    simp only [deepL, deepN, cntL, cntN]
    split <;> omega
theorem cntL_take : ∀ (l : List NodeL) (k : Nat), cntL (l.take k) ≤ cntL l
  | [], k => by simp [cntL]
  | x :: r, 0 => by simp [cntL]
  | x :: r, k + 1 => by
    have := cntL_take r k
    simp only [List.take_succ_cons, cntL]; omega
theorem deepN_eq (n : NodeL) : deepN n = deepL n.kids + (if n.block then 1 else 0) := by obtain ⟨nm, p, ws, b, ks⟩ := n; rfl
theorem deepL_take (l : List NodeL) (k : Nat) (n : NodeL) (h : l[k]? = some n) : deepL (l.take (k + 1)) = max (deepL (l.take k)) (deepN n) := by
  induction l generalizing k with
  | nil => simp at h
  | cons x r ih =>
    cases k with
    | zero =>
      simp only [List.getElem?_cons_zero, Option.some.injEq] at h
      subst h
      simp [deepL]
    | succ k =>
      have := ih k (by simpa using h)
      simp only [List.take_succ_cons, deepL, this]
      omega

set_option maxRecDepth 100000 in
set_option maxHeartbeats 2000000 in
theorem tree_Deep : ∀ (N : Nat) (l : List NodeL) (A : Option Addr) (c : Nat) (w : World) (B : Nat), cntL l < N → cntL l ≤ 100000 → B ≤ w.heap.size → ROk w B A l →
    Calls Tryd.prog 17 #[.slice A l.length c] w fun e w' => e = .returned (.int .i64 (deepL l)) ∧ Below w.heap.size w w' := by
  intro N
  induction N with
  | zero => intro l A c w B h; omega
  | succ N ih =>
    intro l A c w B hN hsm hB hok
    have hlen := cntL_len l
    have HOK := Lib.hid hok
    have HIH := Lib.hid ih
    clear ih hok
    go_enter Tryd.func17, Tryd.ntmps17
    go_wp2_with fail
    go_loopw [3, 9] (fun d i wr => ∃ k : Nat, k ≤ l.length ∧ d = .int .i64 (deepL (l.take k)) ∧ i = .int .i64 k ∧ Below w.heap.size w wr) (fun _ i _ => l.length - (intOf i).toNat)
    case atStart => exact ⟨0, Nat.zero_le _, rfl, rfl, Below.refl _ _⟩
    case round =>
      obtain ⟨k, hk, rfl, rfl, hb⟩ := hrel
      by_cases hlt : k < l.length
      · obtain ⟨n, hn⟩ : ∃ n, l[k]? = some n := ⟨_, List.getElem?_eq_getElem hlt⟩
        obtain ⟨ad, Aw, cw, Ak, ck, hA, hadB, c0, c1, c2, c3, c4, hw, hkk⟩ := (HOK.out.below (hb.mono hB)).at k n hn
        subst hA
        have hc := cntL_mem l k n hn
        have hbs := hb.size
        have hdt := deepL_take l k n hn
        have hd1 := deepL_cnt (l.take k)
        have hdk := deepL_cnt n.kids
        have hd3 := cntL_take l k
        have hd2 : deepL (l.take k) ≤ 100000 := by omega
        have HDT := Lib.hid hdt
        have HKK := Lib.hid hkk
        have HB := Lib.hid hb
        have lk : (k : Int) < l.length := by omega
        have lk0 : (0 : Int) ≤ k := by omega
        have w1f : IntKind.i64.wrap ((k : Int) + 1) = (k : Int) + 1 := by rw [IntKind.wrap_i64]; omega
        have hdn := deepN_eq n
        have hdt2 : deepL (l.take (k + 1)) = max (deepL (l.take k)) (deepL n.kids + (if n.block then 1 else 0)) := by rw [HDT.out, hdn]
        have HDT2 := Lib.hid hdt2
        have hblk := heap_alloc_new wr (.cells #[.string ⟨n.name.toArray⟩, .int .i64 n.pos, .slice Aw n.words.length cw, .bool n.block, .slice Ak n.kids.length ck] 38)
        have HBLK := Lib.hid hblk
        have hd4 : (deepL n.kids : Int) ≤ 100000 := by omega
        have w2f : IntKind.i64.wrap ((deepL n.kids : Int) + 1) = (deepL n.kids : Int) + 1 := by rw [IntKind.wrap_i64]; omega
        clear hdt hdn hdt2 hblk hb hw
        go_wp2_with fail
        refine (HIH.out n.kids Ak ck _ B (by omega) (by omega) (by simp; omega) (HKK.out.below ((Below.refl _ _).alloc (by omega) _))).mono ?_
        rintro e w2 ⟨rfl, hb2⟩
        have hlt2 : wr.heap.size < w2.heap.size := by have := hb2.size; simp at this; omega
        have e3 : w2.cell? ⟨wr.heap.size, 3, none⟩ = some (.bool n.block) := (hb2.cell (p := ⟨wr.heap.size, 3, none⟩) (by simp)).trans (Joins.cell_of_block HBLK.out 3)
        have hb3 : Below w.heap.size w w2 := HB.out.trans (((Below.refl wr.heap.size wr).alloc (Nat.le_refl _) _ |>.trans (hb2.mono (by simp))).mono hbs)
        have HB3 := Lib.hid hb3
        clear hb2 hb3
        cases hnb : n.block with
        | false =>
          rw [hnb] at e3
          go_wp2_with fail
          refine ⟨⟨k + 1, by omega, ?_, by go_num, HB3.out⟩, by simp [intOf]; omega⟩
          refine val_int ?_
          rw [HDT2.out, hnb]
          simp; omega
        | true =>
          rw [hnb] at e3
          go_wp2_with fail
          refine ⟨⟨k + 1, by omega, ?_, by go_num, HB3.out⟩, by simp [intOf]; omega⟩
          refine val_int ?_
          rw [HDT2.out, hnb]
          simp; omega
      · have hkl : k = l.length := by omega
        have HD := Lib.hid (show deepL (l.take k) = deepL l by rw [hkl, List.take_length])
        have lk : ¬ (k : Int) < l.length := by omega
        go_wp2_with fail
        go_ret
        exact ⟨by first | rfl | exact ret_int (by rw [HD.out]), hb⟩

mutual
/-- How many items. -/
def ndN : NodeL → Nat
  | .mk _ _ _ _ ks => 1 + ndL ks
def ndL : List NodeL → Nat
  | [] => 0
  | n :: r => ndN n + ndL r
end
theorem ndN_eq (n : NodeL) : ndN n = 1 + ndL n.kids := by obtain ⟨nm, p, ws, b, ks⟩ := n; rfl
theorem ndL_take (l : List NodeL) (k : Nat) (n : NodeL) (h : l[k]? = some n) : ndL (l.take (k + 1)) = ndL (l.take k) + ndN n := by
  induction l generalizing k with
  | nil => simp at h
  | cons x r ih =>
    cases k with
    | zero =>
      simp only [List.getElem?_cons_zero, Option.some.injEq] at h
      subst h
      simp [ndL]
    | succ k =>
      have := ih k (by simpa using h)
      simp only [List.take_succ_cons, ndL, this]
      omega
theorem ndL_cnt : ∀ l : List NodeL, ndL l ≤ cntL l
  | [] => Nat.le_refl _
  | .mk nm p ws b ks :: r => by
    have h1 := ndL_cnt ks
    have h2 := ndL_cnt r
    simp only [ndL, ndN, cntL, cntN]; omega
theorem cntL_take_mem (l : List NodeL) (k : Nat) (n : NodeL) (h : l[k]? = some n) : cntL (l.take k) + cntN n ≤ cntL l := by
  induction l generalizing k with
  | nil => simp at h
  | cons x r ih =>
    cases k with
    | zero =>
      simp only [List.getElem?_cons_zero, Option.some.injEq] at h
      subst h
      simp [cntL]
    | succ k =>
      have := ih k (by simpa using h)
      simp only [List.take_succ_cons, cntL]
      omega
theorem cntN_eq (n : NodeL) : cntN n = 1 + n.words.length + cntL n.kids := by obtain ⟨nm, p, ws, b, ks⟩ := n; rfl
/-- What is known of each item of a list that may be. -/
theorem check_at : ∀ (l : List NodeL) (d i : Nat) (n : NodeL), checkL d l = 0 → l[i]? = some n → n.words.length ≤ 8 ∧ n.words.all wordOk = true ∧ nameL n.name = true ∧ (n.block = false → n.kids = []) ∧ (n.block = true → d ≠ 6) ∧ checkL (d + 1) n.kids = 0
  | [], d, i, n, _, h => by simp at h
  | x :: r, d, 0, n, hl, h => by
    simp only [List.getElem?_cons_zero, Option.some.injEq] at h
    subst h
    obtain ⟨h1, _⟩ := checkL_cons d _ _ hl
    obtain ⟨nm, p, ws, b, ks⟩ := x
    obtain ⟨p1, p2, p3, p4⟩ := check_parts d nm p ws b ks h1
    refine ⟨p1, ?_, ?_, p2, p3, p4⟩
    · simp only [checkN] at h1
      show ws.all wordOk = true
      cases hw : ws.all wordOk
      · rw [hw] at h1; simp at h1
      · rfl
    · simp only [checkN] at h1
      show nameL nm = true
      cases hw : nameL nm
      · rw [hw] at h1; simp at h1
      · rfl
  | x :: r, d, i + 1, n, hl, h => by
    obtain ⟨_, h2⟩ := checkL_cons d _ _ hl
    exact check_at r d i n h2 (by simpa using h)

set_option maxRecDepth 100000 in
set_option maxHeartbeats 2000000 in
theorem ref9_left : ∀ (N : Nat) (l : List NodeL) (A : Option Addr) (c : Nat) (w : World) (B d : Nat) (most deep : Int), cntL l < N → (cntL l : Int) ≤ most → most ≤ 100000 → B ≤ w.heap.size → ROk w B A l →
    (l = [] ∨ (checkL d l = 0 ∧ d ≤ 6 ∧ 8 - (d : Int) ≤ deep)) → 0 ≤ deep → deep ≤ 100 →
    Calls Tryd.prog 22 #[.slice A l.length c, .int .i64 most, .int .i64 deep] w fun e w' => e = .returned (.int .i64 (most - ndL l)) ∧ Below w.heap.size w w' := by
  intro N
  induction N with
  | zero => intro l A c w B d most deep h; omega
  | succ N ih =>
    intro l A c w B d most deep hN hsm hmx hB hok hchk hdp0 hdp1
    have hlen := cntL_len l
    have HOK := Lib.hid hok
    have HIH := Lib.hid ih
    clear ih hok
    have hg : (deep == 0) = false ∨ (0 < (l.length : Int)) = False := by
      rcases hchk with rfl | ⟨_, h6, h8⟩
      · right; simp
      · left; exact beq_false_of_ne (by omega)
    have key : (∀ (h : 0 < l.length), (deep == 0) = false) := fun h => by
      rcases hchk with rfl | ⟨_, h6, h8⟩
      · simp at h
      · exact beq_false_of_ne (by omega)
    have HCK := Lib.hid hchk
    clear hchk hg
    have hmn : ∀ k : Nat, (ndL (l.take k) : Int) ≤ cntL l := fun k => by have := ndL_cnt (l.take k); have := cntL_take l k; omega
    have HMN := Lib.hid hmn
    clear hmn
    by_cases hemp : l.length = 0
    · have hl0 : l = [] := List.eq_nil_of_length_eq_zero hemp
      subst hl0
      clear key hemp
      have hz : most - (ndL [] : Int) = most := by simp [ndL]
      rw [hz]
      cases hdd : (deep == 0)
      all_goals
        go_enter Tryd.func22, Tryd.ntmps22
        go_wp2_with fail
        go_loopw [1, 18] (fun m i wr => m = .int .i64 most ∧ i = .int .i64 0 ∧ wr = w) (fun _ _ _ => 0)
        case atStart => exact ⟨rfl, rfl, rfl⟩
        case round =>
          obtain ⟨rfl, rfl, rfl⟩ := hrel
          go_wp2_with fail
          go_ret
          exact ⟨rfl, Below.refl _ _⟩
    · have hd0 := key (by omega)
      clear key
      go_enter Tryd.func22, Tryd.ntmps22
      go_wp2_with fail
      go_loopw [1, 18] (fun m i wr => ∃ k : Nat, k ≤ l.length ∧ m = .int .i64 (most - ndL (l.take k)) ∧ i = .int .i64 k ∧ Below w.heap.size w wr) (fun _ i _ => l.length - (intOf i).toNat)
      case atStart => exact ⟨0, Nat.zero_le _, by simp [ndL], rfl, Below.refl _ _⟩
      case round =>
        obtain ⟨k, hk, rfl, rfl, hb⟩ := hrel
        by_cases hlt : k < l.length
        · obtain ⟨n, hn⟩ : ∃ n, l[k]? = some n := ⟨_, List.getElem?_eq_getElem hlt⟩
          obtain ⟨ad, Aw, cw, Ak, ck, hA, hadB, c0, c1, c2, c3, c4, hw, hkk⟩ := (HOK.out.below (hb.mono hB)).at k n hn
          subst hA
          obtain ⟨hck, hd6, hd8⟩ := HCK.out.resolve_left (fun e => hemp (by rw [e]; rfl))
          obtain ⟨p1, p2, p3, p4, p5, p6⟩ := check_at l d k n hck hn
          have hbs := hb.size
          have hc1 := cntL_take_mem l k n hn
          have hc2 := cntN_eq n
          have hc3 := ndL_cnt (l.take k)
          have hc4 := ndL_cnt n.kids
          have hnt := ndL_take l k n hn
          rw [ndN_eq] at hnt
          have HNT := Lib.hid hnt
          have HKK := Lib.hid hkk
          have HB := Lib.hid hb
          have lk : (k : Int) < l.length := by omega
          have lk0 : (0 : Int) ≤ k := by omega
          have w1f : IntKind.i64.wrap ((k : Int) + 1) = (k : Int) + 1 := by rw [IntKind.wrap_i64]; omega
          obtain ⟨m, hm⟩ : ∃ m : Int, m = most - ndL (l.take k) := ⟨_, rfl⟩
          have hm0 : ¬ m < 0 := by omega
          have hm1 : (cntL n.kids : Int) ≤ m - 1 := by omega
          have hm2 : m ≤ 100000 := by omega
          have HM := Lib.hid hm
          rw [← hm]
          have hw20 : ¬ (20 < (n.words.length : Int)) := by omega
          have w3f : IntKind.i64.wrap (m - 1) = m - 1 := by rw [IntKind.wrap_i64]; omega
          have w4f : IntKind.i64.wrap (deep - 1) = deep - 1 := by rw [IntKind.wrap_i64]; omega
          have hkd : n.kids = [] ∨ (checkL (d + 1) n.kids = 0 ∧ d + 1 ≤ 6 ∧ 8 - ((d + 1 : Nat) : Int) ≤ deep - 1) := by
            cases hnb : n.block
            · exact .inl (p4 hnb)
            · exact .inr ⟨p6, by have := p5 hnb; omega, by omega⟩
          have HKD := Lib.hid hkd
          clear hkd p1 p2 p3 p4 p5 p6 hck hw hnt hm hb
          go_wp2_with fail
          refine (HIH.out n.kids Ak ck _ B (d + 1) (m - 1) (deep - 1) (by omega) hm1 (by omega) (by simp; omega) (HKK.out.below ((Below.refl _ _).alloc (by omega) _)) HKD.out (by omega) (by omega)).mono ?_
          rintro e w2 ⟨rfl, hb2⟩
          have hb3 : Below w.heap.size w w2 := HB.out.trans (((Below.refl wr.heap.size wr).alloc (Nat.le_refl _) _ |>.trans (hb2.mono (by simp))).mono hbs)
          have HB3 := Lib.hid hb3
          clear hb2 hb3
          go_wp2_with fail
          refine ⟨⟨k + 1, by omega, ?_, by go_num, HB3.out⟩, by simp [intOf]; omega⟩
          refine val_int ?_
          rw [HNT.out, HM.out]
          omega
        · have hkl : k = l.length := by omega
          have HD := Lib.hid (show ndL (l.take k) = ndL l by rw [hkl, List.take_length])
          have lk : ¬ (k : Int) < l.length := by omega
          go_wp2_with fail
          go_ret
          exact ⟨by first | rfl | exact ret_int (by rw [HD.out]), hb⟩

end Go.Proofs.YtaffbnjdlgcaiaaDoor
