/- Layer 11 (field): the walk of Read. -/
import Derived.Test.YtjbniichcopnlaaGreatDoorPkS28
import Derived.Test.YtjbniichcopnlaaGreatDoorPkS29
set_option linter.unusedVariables false
set_option linter.unusedSimpArgs false
set_option maxRecDepth 100000
namespace Go.Proofs.YtjbniichcopnlaaGreatDoor
open Go.RowKit
open Go.Joins renaming cell_of_block → zb, unfrozen_of_block → zu
open Go.Lib renaming hid → zh
theorem keyK_ok (key : Bytes) (c d : CalL) (ws : List WordL) : (keyK key c ws).2 = (keyK key d ws).2 := by
  unfold keyK
  dsimp only
  repeat' split
  all_goals rfl
theorem putAll_take (c : CalL) (l : List NodeL) (k : Nat) (x : NodeL) (h : l[k]? = some x) : putAll c (l.take (k + 1)) = if x.name = b_end then putAll c (l.take k) else (keyK x.name (putAll c (l.take k)) x.words).1 := by
  unfold putAll
  rw [List.take_add_one,h]
  simp only [Option.toList_some,List.foldl_append,List.foldl_cons,List.foldl_nil]
theorem three (w : World) (o1 o2 o3 : Obj) : Below w.heap.size w (((w.alloc o1).alloc o2).alloc o3) ∧ (((w.alloc o1).alloc o2).alloc o3).heap[w.heap.size]? = some o1 ∧
    (((w.alloc o1).alloc o2).alloc o3).heap[w.heap.size + 1]? = some o2 ∧ (((w.alloc o1).alloc o2).alloc o3).heap[w.heap.size + 1 + 1]? = some o3 ∧ (((w.alloc o1).alloc o2).alloc o3).heap.size = w.heap.size + 1 + 1 + 1:=by
  have z1 : (w.alloc o1).heap.size = w.heap.size + 1:=by simp
  have z2 : ((w.alloc o1).alloc o2).heap.size = w.heap.size + 1 + 1:=by simp
  refine ⟨(((Below.refl _ _).alloc (Nat.le_refl _) _).alloc (by omega) _).alloc (by omega) _,?_,?_,?_,by simp⟩
  · rw [Go.heap_alloc_old _ _ (by omega),Go.heap_alloc_old _ _ (by omega)];exact heap_alloc_new w o1
  · rw [Go.heap_alloc_old _ _ (by omega),← z1];exact heap_alloc_new _ o2
  · rw [← z2];exact heap_alloc_new _ o3
theorem formed_err (nm : Bytes) : ∀ (l : List NodeL) (seen : List Bytes) (co : Option CalL) (p e : Int),formedL nm seen co l = .inl (p,e) → e = 8 ∨ e = 9 ∨ e = 5
  | [],seen,co,p,e,h => by simp [formedL] at h
  | k :: r,seen,co,p,e,h => by
    unfold formedL at h
    split at h
    · simp only [Sum.inl.injEq,Prod.mk.injEq] at h;exact .inl h.2.symm
    · split at h
      · simp only [Sum.inl.injEq,Prod.mk.injEq] at h;exact .inr (.inl h.2.symm)
      · split at h
        · simp only [Sum.inl.injEq,Prod.mk.injEq] at h;exact .inr (.inr h.2.symm)
        · exact formed_err nm r _ _ p e h
theorem fitsI_err (kind : Int) (names : List Bytes) : ∀ (l : List NodeL) (i : Nat) (p e : Int),fitsI kind names i l = some (p,e) → e = 8 ∨ e = 9
  | [],i,p,e,h => by simp [fitsI] at h
  | k :: r,i,p,e,h => by
    unfold fitsI at h
    split at h
    · simp only [Option.some.injEq,Prod.mk.injEq] at h;exact .inl h.2.symm
    · split at h
      · simp only [Option.some.injEq,Prod.mk.injEq] at h;exact .inr h.2.symm
      · exact fitsI_err kind names r _ p e h
/-- What the end says has the block's name. -/
theorem formed_name (nm : Bytes) : ∀ (l : List NodeL) (seen : List Bytes) (co : Option CalL) (c : CalL),formedL nm seen co l = .inr (some c) → (∀ d,co = some d → d.name = nm) → c.name = nm
  | [],seen,co,c,h,hc => by
    simp only [formedL,Sum.inr.injEq] at h
    exact hc c h
  | k :: r,seen,co,c,h,hc => by
    unfold formedL at h
    split at h
    · cases h
    · split at h
      · cases h
      · split at h
        · cases h
        · refine formed_name nm r _ _ c h ?_
          intro d hd
          split at hd
          · next hk =>
            injection hd with hd
            rw [← hd,hk]
            have : putK b_end { calZ with name:=nm } k.words = endK nm k.words:=if_pos rfl
            rw [this]
            exact endK_name nm k.words
          · exact hc d hd
theorem keyK_name (key : Bytes) (c : CalL) (ws : List WordL) : (keyK key c ws).1.name = c.name := by
  unfold keyK
  dsimp only
  repeat' split
  all_goals rfl
theorem putAll_name (c : CalL) : ∀ (l : List NodeL),(putAll c l).name = c.name := by
  intro l
  unfold putAll
  induction l generalizing c with
  | nil => rfl
  | cons k r ih =>
    rw [List.foldl_cons,ih]
    split
    · rfl
    · exact keyK_name _ _ _
/-- How a block that may be is read,in the walk's own order. -/
theorem readC_form (nm : Bytes) (p : Int) (ws : List WordL) (b : Bool) (ks : List NodeL) (hck : checkL 0 [.mk nm p ws b ks] = 0) (h : nm ≠ b_calendar ∨ b = false ∨ ws.length ≠ 1 ∨ (ws.headD ⟨false,0,[],0⟩).num = true) : readC (.mk nm p ws b ks) = ⟨calZ,p,5⟩ := by
  unfold readC
  rw [if_neg (by rw [hck];simp),if_pos (by exact h)]
  rfl
theorem readC_block (nm : Bytes) (p : Int) (ws : List WordL) (b : Bool) (ks : List NodeL) (hck : checkL 0 [.mk nm p ws b ks] = 0) (h : ¬ (nm ≠ b_calendar ∨ b = false ∨ ws.length ≠ 1 ∨ (ws.headD ⟨false,0,[],0⟩).num = true)) : readC (.mk nm p ws b ks) = readBlock (.mk nm p ws b ks) := by
  unfold readC
  rw [if_neg (by rw [hck];simp),if_neg (by exact h)]
/-- What formed tells,by what the plain function says. -/
def FormedTo (F : (Int × Int) ⊕ (Option CalL)) (p : Int) (ks : List NodeL) (e : Ending) (W' : World) : Prop :=
  match F with
  | .inl (p,er) => ∃ c,e = .returned (.tuple #[calV c, .map none, .int .i64 p, .int .i64 er])
  | .inr none => ∃ c,e = .returned (.tuple #[calV c, .map none, .int .i64 p, .int .i64 10])
  | .inr (some c) => ∃ g,e = .returned (.tuple #[calV c, .map (some g), .int .i64 0, .int .i64 0]) ∧ W'.heap[g]? = some (.map (atMap (ks.map NodeL.name)) ks.length)
theorem formedPost_to {nm : Bytes} {p : Int} {t : WordL} {b : Bool} {ks : List NodeL} {W W' : World} {e : Ending} {F : (Int × Int) ⊕ (Option CalL)} (h : FormedPost (.mk nm p [t] b ks) W e W') (hF : formedL t.s [] none ks = F) : Below W.heap.size W W' ∧ FormedTo F p ks e W' := by
  subst hF
  exact h
/-- What fits tells,by what the plain functions say. -/
def FitsTo (G : Option (Int × Int)) (ms : Bool) (p : Int) (e : Ending) : Prop :=
  e = match G with
  | some (p,er) => .returned (.tuple #[.int .i64 p, .int .i64 er])
  | none => if ms then .returned (.tuple #[.int .i64 p, .int .i64 10]) else .returned (.tuple #[.int .i64 0, .int .i64 0])
theorem fitsPost_to {nm : Bytes} {p : Int} {ws : List WordL} {b : Bool} {ks : List NodeL} {kind : Int} {W W' : World} {e : Ending} {G : Option (Int × Int)} {ms : Bool} (h : FitsPost (.mk nm p ws b ks) kind W e W')
    (hG : fitsI kind (ks.map NodeL.name) 0 ks = G) (hms : missA kind (ks.map NodeL.name) = ms) : Below W.heap.size W W' ∧ FitsTo G ms p e:=by
  subst hG hms
  exact h
section
variable {nm : Bytes} {p : Int} {t : WordL} {b : Bool} {ks : List NodeL}
theorem rb_inl {p' e' : Int} (hF : formedL t.s [] none ks = .inl (p',e')) : readBlock (.mk nm p [t] b ks) = ⟨calZ,p',e'⟩ := by
  show (match formedL t.s [] none ks with
  | .inl (p,e) => (⟨calZ,p,e⟩ : CalR)
  | .inr none => ⟨calZ,p,10⟩
  | .inr (some c) => _) = _
  rw [hF]
theorem rb_some {c : CalL} (hF : formedL t.s [] none ks = .inr (some c)) : readBlock (.mk nm p [t] b ks) = match fitsL c.kind [] ks with
    | some (p,e) => ⟨calZ,p,e⟩
    | none => if missL c.kind (ks.map NodeL.name) then ⟨calZ,p,10⟩ else if okC (putAll c ks) then ⟨putAll c ks,0,0⟩ else ⟨calZ,p,1⟩:=by
  unfold readBlock
  dsimp only [NodeL.words,NodeL.kids,List.headD_cons]
  rw [hF]
  rfl
theorem rb_fits {c : CalL} {p' e' : Int} (hF : formedL t.s [] none ks = .inr (some c)) (hG : fitsL c.kind [] ks = some (p',e')) : readBlock (.mk nm p [t] b ks) = ⟨calZ,p',e'⟩ := by
  rw [rb_some hF,hG]
theorem rb_miss {c : CalL} (hF : formedL t.s [] none ks = .inr (some c)) (hG : fitsL c.kind [] ks = none) (hm : missL c.kind (ks.map NodeL.name) = true) : readBlock (.mk nm p [t] b ks) = ⟨calZ,p,10⟩ := by
  rw [rb_some hF,hG,hm]
  rfl
theorem rb_ok {c : CalL} (hF : formedL t.s [] none ks = .inr (some c)) (hG : fitsL c.kind [] ks = none) (hm : missL c.kind (ks.map NodeL.name) = false) (ho : okC (putAll c ks) = true) : readBlock (.mk nm p [t] b ks) = ⟨putAll c ks,0,0⟩ := by
  rw [rb_some hF,hG,hm,ho]
  rfl
theorem rb_arg {c : CalL} (hF : formedL t.s [] none ks = .inr (some c)) (hG : fitsL c.kind [] ks = none) (hm : missL c.kind (ks.map NodeL.name) = false) (ho : okC (putAll c ks) = false) : readBlock (.mk nm p [t] b ks) = ⟨calZ,p,1⟩ := by
  rw [rb_some hF,hG,hm,ho]
  rfl
end
theorem kids_words (nm : Bytes) (p : Int) (ws : List WordL) (b : Bool) (ks : List NodeL) (h : checkL 0 [.mk nm p ws b ks] = 0) : ∀ k ∈ ks,k.words.length ≤ 100 := by
  intro k hk
  obtain ⟨i,hi,rfl⟩:=List.getElem_of_mem hk
  have h1:=(check_parts 0 nm p ws b ks (checkL_cons 0 _ _ h).1).2.2.2
  have:=(check_at ks 1 i ks[i] h1 (List.getElem?_eq_getElem hi)).1
  omega
theorem putAll_two (c : CalL) (l : List NodeL) (k : Nat) (x : NodeL) (h : l[k]? = some x) : (x.name = b_end → putAll c (l.take (k + 1)) = putAll c (l.take k)) ∧ (x.name ≠ b_end → putAll c (l.take (k + 1)) = (keyK x.name (putAll c (l.take k)) x.words).1) :=
  ⟨fun e => (putAll_take c l k x h).trans (if_pos e),fun e => (putAll_take c l k x h).trans (if_neg e)⟩
/-- What Read tells. -/
def ReadPost (n : NodeL) (w : World) (e : Ending) (w' : World) : Prop :=
  e = .returned (.tuple #[calV (readC n).cal, .int .i64 (readC n).at_, .int .i64 (readC n).err]) ∧ Below w.heap.size w w'
set_option maxHeartbeats 16000000 in
theorem field_Read (n : NodeL) (cs : List Value) (w : World) (B : Nat) (hB : B ≤ w.heap.size) (hn : NodeOk w (· < B) n cs) (hsm : cntL [n] ≤ 100000) (hfit : fitNs [n]) :
    Calls Tryz.prog 22 #[.agg cs.toArray] w (ReadPost n w):=by
  have hn0:=hn
  obtain ⟨nm,p,ws,b,ks⟩:=n
  simp only [NodeOk] at hn
  obtain ⟨Aw,cw,Ak,ck,kcs,rfl,_,_,hrw,hrk,hks⟩:=hn
  have hRP : ReadPost (.mk nm p ws b ks) w = fun e w' => e = .returned (.tuple #[calV (readC (.mk nm p ws b ks)).cal, .int .i64 (readC (.mk nm p ws b ks)).at_, .int .i64 (readC (.mk nm p ws b ks)).err]) ∧ Below w.heap.size w w':=rfl
  have HRP:=zh hRP
  have HRW:=zh hrw
  have HRK:=zh hrk
  have HKS:=zh hks
  have HN:=zh hn0
  have HFIT:=zh (And.intro hsm hfit)
  obtain ⟨ck0,hck⟩ : ∃ x,checkL 0 [.mk nm p ws b ks] = x:=⟨_,rfl⟩
  have hTC : ∀ (W : World) (g B' : Nat),B' ≤ W.heap.size → ROk W B' (some ⟨g,0,none⟩) [.mk nm p ws b ks] → Calls Tryz.prog 33 #[.slice (some ⟨g,0,none⟩) 1 1] W fun e w' => e = .returned (.int .i64 ck0) ∧ Below W.heap.size W w' := fun W g B' h1 h2 => by
    have:=tree_CheckG [.mk nm p ws b ks] (some ⟨g,0,none⟩) 1 W B' hsm h1 h2 hfit
    rw [hck] at this
    exact this
  have HTC:=zh hTC
  have HCK:=zh hck
  generalize hFQ : ReadPost (.mk nm p ws b ks) w = Q at *
  clear hRP hrw hrk hks hFQ hn0 hck hTC hsm hfit
  go_enter Tryz.func22,Tryz.ntmps22
  go_wp2_with fail
  have hB3:=three w (.cells #[.string ⟨nm.toArray⟩, .int .i64 p, .slice Aw ws.length cw, .bool b, .slice Ak ks.length ck] 44) (.cells #[.string ⟨#[]⟩, .int .i64 0, .int .i64 0, .int .i64 0, .int .i64 0, .int .i64 0, .int .i64 0, .int .i64 0, .int .i64 0, .int .i64 0, .int .i64 0, .int .i64 0, .int .i64 0, .int .i64 0] 37) (.cells #[.string ⟨nm.toArray⟩, .int .i64 p, .slice Aw ws.length cw, .bool b, .slice Ak ks.length ck] 44)
  obtain ⟨W0,hW0⟩ : ∃ W0,((w.alloc (.cells #[.string ⟨nm.toArray⟩, .int .i64 p, .slice Aw ws.length cw, .bool b, .slice Ak ks.length ck] 44)).alloc (.cells #[.string ⟨#[]⟩, .int .i64 0, .int .i64 0, .int .i64 0, .int .i64 0, .int .i64 0, .int .i64 0, .int .i64 0, .int .i64 0, .int .i64 0, .int .i64 0, .int .i64 0, .int .i64 0, .int .i64 0] 37)).alloc (.cells #[.string ⟨nm.toArray⟩, .int .i64 p, .slice Aw ws.length cw, .bool b, .slice Ak ks.length ck] 44) = W0:=⟨_,rfl⟩
  rw [hW0] at hB3
  rw [hW0]
  obtain ⟨hb0,x0,x1,x2,z0⟩:=hB3
  have hrok : ROk W0 W0.heap.size (some ⟨w.heap.size + 1 + 1,0,none⟩) [.mk nm p ws b ks] := by
    refine ⟨[.string ⟨nm.toArray⟩, .int .i64 p, .slice Aw ws.length cw, .bool b, .slice Ak ks.length ck],⟨rfl,fun _ => ⟨_,rfl,by show w.heap.size + 1 + 1 < _;omega,fun j u hu => ?_⟩⟩,NodesOk.one (NodeOk.keep (M:=(· < B)) (fun b hb => by show b < _;omega) (fun q hq => hb0.cell (by omega)) _ _ HN.out)⟩
    have : (⟨w.heap.size + 1 + 1,0,none⟩ : Addr).add j = ⟨w.heap.size + 1 + 1,j,none⟩ := by
      unfold Addr.add
      split
      · next h => subst h;rfl
      · simp
    rw [this,zb x2 j]
    simpa using hu
  refine (HTC.out W0 _ _ (Nat.le_refl _) hrok).mono ?_
  rintro e w1 ⟨rfl,hb1⟩
  have hbw : Below w.heap.size w w1:=hb0.trans (hb1.mono hb0.size)
  have y0:=(hb1.block w.heap.size (by omega)).trans x0
  have y1:=(hb1.block (w.heap.size + 1) (by omega)).trans x1
  have HBW:=zh hbw
  have HY:=zh (And.intro y0 y1)
  clear hW0 hb0 x0 x1 x2 z0 hrok hb1 hbw HTC
  have hcal1 : CalBlk w1 (w.heap.size + 1) calZ:=y1
  obtain ⟨bc,hbc⟩ : ∃ x,x = w.heap.size + 1:=⟨_,rfl⟩
  rw [← hbc] at hcal1
  rw [← hbc]
  have HBC:=zh hbc
  have hbc0 : w.heap.size < bc:=by omega
  clear hbc y1
  have HC1:=zh hcal1
  by_cases hck : ck0 = 0
  · subst hck
    have HE0:=zh (zb y0 0)
    have e0:=zb y0 0
    have e1:=zb y0 1
    have e2:=zb y0 2
    have e3:=zb y0 3
    have e4:=zb y0 4
    obtain ⟨q,hq⟩ : ∃ q,(nm == [99,97,108,101,110,100,97,114]) = q:=⟨_,rfl⟩
    have hform : ∀ (hh : nm ≠ b_calendar ∨ b = false ∨ ws.length ≠ 1 ∨ (ws.headD ⟨false,0,[],0⟩).num = true),readC (.mk nm p ws b ks) = ⟨calZ,p,5⟩:=fun hh => readC_form nm p ws b ks HCK.out hh
    have HFORM:=zh hform
    clear hform y0
    by_cases hbad : q = false ∨ b = false ∨ ws.length ≠ 1
    · have HR := zh (HFORM.out (by
        rcases hbad with h | h | h
        · rw [h] at hq
          exact .inl (by intro e;rw [e] at hq;revert hq;decide)
        · exact .inr (.inl h)
        · exact .inr (.inr (.inl h))))
      dsimp only [CalBlk,calZ] at hcal1
      obtain ⟨c0,c1,c2,c3,c4,c5,c6,c7,c8,c9,c10,c11,c12,c13⟩:=cells14 hcal1;obtain ⟨f0,f1,f2,f3,f4,f5,f6,f7,f8,f9,f10,f11,f12,f13⟩:=unf14 hcal1
      clear hcal1
      cases q
      · clear hbad
        go_wp2_with fail
        go_region
        all_goals (
          go_wp2_with fail
          (refine bodyPost_ret (v:=.tuple #[calV calZ, .int .i64 p, .int .i64 5]) (by simp [results,calV,calZ,Tryz.results22,go_sem, *]) rfl ?_)
          rw [HRP.out,HR.out]
          exact ⟨rfl,(CalBlk.below HBW.out (Nat.le_of_lt hbc0) calZ).drew⟩)
      · cases b
        · clear hbad
          go_wp2_with fail
          go_region
          all_goals (
            go_wp2_with fail
            (refine bodyPost_ret (v:=.tuple #[calV calZ, .int .i64 p, .int .i64 5]) (by simp [results,calV,calZ,Tryz.results22,go_sem, *]) rfl ?_)
            rw [HRP.out,HR.out]
            exact ⟨rfl,(CalBlk.below HBW.out (Nat.le_of_lt hbc0) calZ).drew⟩)
        · have hl : ((ws.length : Int) != 1) = true := by
            rcases hbad with h | h | h
            · cases h
            · cases h
            · simp;omega
          clear hbad
          go_wp2_with fail
          go_region
          all_goals (
            go_wp2_with fail
            (refine bodyPost_ret (v:=.tuple #[calV calZ, .int .i64 p, .int .i64 5]) (by simp [results,calV,calZ,Tryz.results22,go_sem, *]) rfl ?_)
            rw [HRP.out,HR.out]
            exact ⟨rfl,(CalBlk.below HBW.out (Nat.le_of_lt hbc0) calZ).drew⟩)
    · have hqf : q = true := by cases q; exact absurd (.inl rfl) hbad; rfl
      have hbt : b = true:=by cases b;exact absurd (.inr (.inl rfl)) hbad;rfl
      have hw1 : ws.length = 1:=Decidable.byContradiction fun h => hbad (.inr (.inr h))
      subst hqf hbt
      obtain ⟨t,rfl⟩ : ∃ t,ws = [t] := by
        match ws,hw1 with
        | [t],_ => exact ⟨t,rfl⟩
      obtain ⟨ad,rfl,hadb,w0c,w1c,w2c,w3c⟩:=word0 (HRW.out.keep (fun _ h => h) (fun q hq => HBW.out.cell (by omega)))
      obtain ⟨tn,tnn,ts,tp⟩:=t
      dsimp only [List.length_cons,List.length_nil,Nat.zero_add] at *
      cases tn
      · have HRB := zh (readC_block nm p [⟨false,tnn,ts,tp⟩] true ks HCK.out (by
          rintro (h | h | h | h)
          · exact h (by have:=beq_iff_eq.1 hq;exact this)
          · cases h
          · exact h rfl
          · cases h))
        have hkl : ks.length ≤ 100000 := by
          have h1:=HFIT.out.1
          have h2:=cntL_len ks
          simp only [cntL,cntN] at h1
          omega
        have hkw:=kids_words nm p _ true ks HCK.out
        have hnk : ∀ W,Below w.heap.size w W → NodeOk W (· < B) (.mk nm p [⟨false,tnn,ts,tp⟩] true ks) [.string ⟨nm.toArray⟩, .int .i64 p, .slice (some ad) 1 cw, .bool true, .slice Ak ks.length ck]:=fun W hW => NodeOk.keep (fun _ h => h) (fun q hq => hW.cell (by omega)) _ _ HN.out
        have HNK:=zh hnk
        have HFD:=zh (fun W (hW : Below w.heap.size w W) => field_formed (.mk nm p [⟨false,tnn,ts,tp⟩] true ks) _ W B (Nat.le_trans hB hW.size) (hnk W hW) rfl hkl hkw)
        have HFT:=zh (fun kind g W (hW : Below w.heap.size w W) hg => field_fits (.mk nm p [⟨false,tnn,ts,tp⟩] true ks) kind _ g W B (Nat.le_trans hB hW.size) (hnk W hW) hkl hg)
        obtain ⟨F,hF⟩ : ∃ F,formedL ts [] none ks = F:=⟨_,rfl⟩
        have HFP : Hid (∀ (W : World) e W',FormedPost (.mk nm p [⟨false,tnn,ts,tp⟩] true ks) W e W' → Below W.heap.size W W' ∧ FormedTo F p ks e W'):=zh (fun W e W' h => formedPost_to h hF)
        have HF:=zh hF
        have HKL:=zh (And.intro hkl hkw)
        clear hkl hkw hnk hbad hw1 hF HFORM
        dsimp only [CalBlk,calZ] at hcal1
        go_wp2_with fail
        refine (HFD.out w1 HBW.out).mono ?_
        intro e w2 hfp
        obtain ⟨hbf,hm⟩:=HFP.out w1 e w2 hfp
        have hbw2 : Below w.heap.size w w2:=HBW.out.trans (hbf.mono HBW.out.size)
        have hy2:=(hbf.block w.heap.size (Array.getElem?_eq_some_iff.1 HY.out.1).1).trans HY.out.1
        have hc2 : CalBlk w2 bc calZ:=HC1.out.keep hbf
        have hbcl:=hc2.lt
        replace e0:=zb hy2 0
        replace e1:=zb hy2 1
        replace e2:=zb hy2 2
        replace e3:=zb hy2 3
        replace e4:=zb hy2 4
        have HB2:=zh hbw2
        have HC2:=zh hc2
        have HY2:=zh hy2
        have hwl2 : w.heap.size < w2.heap.size:=(Array.getElem?_eq_some_iff.1 hy2).1
        clear hfp hbf hbw2 hy2 hcal1 HFD HFP HC1 HY w0c w1c w2c w3c
        dsimp only [CalBlk,calZ] at hc2
        match F,hm,HF with
        | .inl (p',er),hm,HF =>
          obtain ⟨c,rfl⟩:=hm
          have her:=formed_err ts ks [] none p' er HF.out
          have ne0 : (er == 0) = false:=beq_false_of_ne (by omega)
          have ne1 : (er != 0) = true:=by simp;omega
          have HR := zh (show readC (.mk nm p [⟨false,tnn,ts,tp⟩] true ks) = ⟨calZ,p',er⟩ from HRB.out.trans (by
            unfold readBlock
            dsimp only [NodeL.words,NodeL.kids,List.headD_cons]
            rw [HF.out]))
          obtain ⟨c0,c1,c2,c3,c4,c5,c6,c7,c8,c9,c10,c11,c12,c13⟩:=cells14 hc2;obtain ⟨f0,f1,f2,f3,f4,f5,f6,f7,f8,f9,f10,f11,f12,f13⟩:=unf14 hc2
          clear hc2 her
          obtain ⟨cnm,ckd,cdy,cmo,csh,csp,cp0,cp1,cp2,ccy,cex,cfi,cla,cpo⟩:=c
          dsimp only [calV]
          go_wp2_with fail
          (refine bodyPost_ret (v:=.tuple #[calV calZ, .int .i64 p', .int .i64 er]) (by simp [results,calV,calZ,Tryz.results22,go_sem, *]) rfl ?_)
          rw [HRP.out,HR.out]
          exact ⟨rfl,(CalBlk.below HB2.out (Nat.le_of_lt hbc0) calZ).alloc (by simpa using HB2.out.size) _⟩
        | .inr none,hm,HF =>
          obtain ⟨c,rfl⟩:=hm
          have HR := zh (show readC (.mk nm p [⟨false,tnn,ts,tp⟩] true ks) = ⟨calZ,p,10⟩ from HRB.out.trans (by
            unfold readBlock
            dsimp only [NodeL.words,NodeL.kids,List.headD_cons]
            rw [HF.out]
            rfl))
          obtain ⟨c0,c1,c2,c3,c4,c5,c6,c7,c8,c9,c10,c11,c12,c13⟩:=cells14 hc2;obtain ⟨f0,f1,f2,f3,f4,f5,f6,f7,f8,f9,f10,f11,f12,f13⟩:=unf14 hc2
          clear hc2
          obtain ⟨cnm,ckd,cdy,cmo,csh,csp,cp0,cp1,cp2,ccy,cex,cfi,cla,cpo⟩:=c
          dsimp only [calV]
          go_wp2_with fail
          (refine bodyPost_ret (v:=.tuple #[calV calZ, .int .i64 p, .int .i64 10]) (by simp [results,calV,calZ,Tryz.results22,go_sem, *]) rfl ?_)
          rw [HRP.out,HR.out]
          exact ⟨rfl,(CalBlk.below HB2.out (Nat.le_of_lt hbc0) calZ).alloc (by simpa using HB2.out.size) _⟩
        | .inr (some c),hm,HF =>
          obtain ⟨g,rfl,hg⟩:=hm
          have hcn:=formed_name ts ks [] none c HF.out (fun d hd => by cases hd)
          have hfr:=formed_right ts ks [] none (some c) HF.out (by simp) (by simp)
          have HFR:=zh hfr
          have HCN:=zh hcn
          have HEND:=zh (formed_end ts ks [] none (some c) HF.out rfl)
          have HFI:=zh (fitsI_eq c.kind (ks.map NodeL.name) (by simpa using hfr.1) ks 0 rfl)
          have HCC:=zh (show c = c from rfl)
          have hfits:=HFT.out c.kind g (w2.alloc (.cells #[.string ⟨c.name.toArray⟩, .int .i64 c.kind, .int .i64 c.day, .int .i64 c.month, .int .i64 c.shift, .int .i64 c.shape, .int .i64 c.p0, .int .i64 c.p1, .int .i64 c.p2, .int .i64 c.cycle, .int .i64 c.extra, .int .i64 c.first, .int .i64 c.last, .int .i64 c.policy] 37)) (HB2.out.alloc HB2.out.size _) ((Go.heap_alloc_old w2 _ (Array.getElem?_eq_some_iff.1 hg).1).trans hg)
          have HFITS:=zh hfits
          clear hg hfits hfr hcn HFT
          dsimp only [calV]
          go_wp2_with fail
          obtain ⟨G,hG⟩ : ∃ G,fitsI c.kind (ks.map NodeL.name) 0 ks = G:=⟨_,rfl⟩
          obtain ⟨ms,hms⟩ : ∃ ms,missA c.kind (ks.map NodeL.name) = ms:=⟨_,rfl⟩
          have HGM:=zh (And.intro hG hms)
          have HFT3 : Hid (∀ e w3,FitsPost (.mk nm p [⟨false,tnn,ts,tp⟩] true ks) c.kind (w2.alloc (.cells #[.string ⟨c.name.toArray⟩, .int .i64 c.kind, .int .i64 c.day, .int .i64 c.month, .int .i64 c.shift, .int .i64 c.shape, .int .i64 c.p0, .int .i64 c.p1, .int .i64 c.p2, .int .i64 c.cycle, .int .i64 c.extra, .int .i64 c.first, .int .i64 c.last, .int .i64 c.policy] 37)) e w3 → Below (w2.heap.size + 1) (w2.alloc (.cells #[.string ⟨c.name.toArray⟩, .int .i64 c.kind, .int .i64 c.day, .int .i64 c.month, .int .i64 c.shift, .int .i64 c.shape, .int .i64 c.p0, .int .i64 c.p1, .int .i64 c.p2, .int .i64 c.cycle, .int .i64 c.extra, .int .i64 c.first, .int .i64 c.last, .int .i64 c.policy] 37)) w3 ∧ FitsTo G ms p e) := zh (fun e w3 h => by
            have:=fitsPost_to h hG hms
            exact ⟨by simpa using this.1,this.2⟩)
          clear hG hms
          refine HFITS.out.mono ?_
          intro e w3 hfp
          obtain ⟨hb3,he3⟩:=HFT3.out e w3 hfp
          obtain ⟨cnm,ckd,cdy,cmo,csh,csp,cp0,cp1,cp2,ccy,cex,cfi,cla,cpo⟩:=c
          dsimp only at *
          have hcb3 : CalBlk w3 w2.heap.size ⟨cnm,ckd,cdy,cmo,csh,csp,cp0,cp1,cp2,ccy,cex,cfi,cla,cpo⟩:=(hb3.block w2.heap.size (by omega)).trans (heap_alloc_new w2 _)
          have hc3 : CalBlk w3 bc calZ:=(hb3.block bc (by omega)).trans (HC2.out.alloc _)
          have hy3:=(hb3.block w.heap.size (by omega)).trans ((Go.heap_alloc_old w2 _ hwl2).trans HY2.out)
          have hbw3 : Below w.heap.size w w3:=(HB2.out.alloc HB2.out.size _).trans (hb3.mono (by omega))
          replace e0:=zb hy3 0
          replace e1:=zb hy3 1
          replace e4:=zb hy3 4
          have HB3:=zh (And.intro hbw3 (And.intro hcb3 (And.intro hc3 hy3)))
          have hl3 : bc < w3.heap.size ∧ w2.heap.size < w3.heap.size ∧ w.heap.size < w3.heap.size:=⟨hc3.lt,hcb3.lt,(Array.getElem?_eq_some_iff.1 hy3).1⟩
          have hl31:=hl3.1
          have hl32:=hl3.2.1
          have hl33:=hl3.2.2
          clear hfp hb3 HFT3 HFITS hcb3 hy3 hbw3 hc2 e2 e3 hl3
          dsimp only [CalBlk,calZ] at hc3
          match G,he3,HGM with
          | some (p',er),he3,HGM =>
            have her:=fitsI_err ckd (ks.map NodeL.name) ks 0 p' er HGM.out.1
            obtain rfl : e = .returned (.tuple #[.int .i64 p', .int .i64 er]):=he3
            have ne0 : (er == 0) = false:=beq_false_of_ne (by omega)
            have ne1 : (er != 0) = true:=by simp;omega
            have HR:=zh (HRB.out.trans (rb_fits HF.out (by have h1:=HFI.out;rw [HGM.out.1,List.take_zero] at h1;exact h1.symm)))
            obtain ⟨c0,c1,c2,c3,c4,c5,c6,c7,c8,c9,c10,c11,c12,c13⟩:=cells14 hc3;obtain ⟨f0,f1,f2,f3,f4,f5,f6,f7,f8,f9,f10,f11,f12,f13⟩:=unf14 hc3
            clear hc3 her
            go_wp2_with fail
            (refine bodyPost_ret (v:=.tuple #[calV calZ, .int .i64 p', .int .i64 er]) (by simp [results,calV,calZ,Tryz.results22,go_sem, *]) rfl ?_)
            rw [HRP.out,HR.out]
            exact ⟨rfl,CalBlk.below HB3.out.1 (Nat.le_of_lt hbc0) calZ⟩
          | none,he3,HGM =>
            cases ms
            · obtain rfl : e = .returned (.tuple #[.int .i64 0, .int .i64 0]) := he3
              have HMI := zh (show missL ckd (ks.map NodeL.name) = false from by
                have h2:=HEND.out
                rw [← missA_eq _ _ (by simpa using h2)]
                exact HGM.out.2)
              have HFL:=zh (show fitsL ckd [] ks = none from by have h1:=HFI.out;rw [HGM.out.1,List.take_zero] at h1;exact h1.symm)
              clear HFI HGM HEND hc3
              go_wp2_with (first | (go_at_call 46;refine (field_keys _).mono ?_;rintro e w4 ⟨rfl,rfl⟩))
              obtain ⟨b5,hb5⟩ : ∃ x,x = w2.heap.size:=⟨_,rfl⟩
              obtain ⟨bk,hbk⟩ : ∃ x,x = w3.heap.size:=⟨_,rfl⟩
              have HBS:=zh (show w.heap.size < bc ∧ bc < b5 ∧ b5 < bk ∧ bk = w3.heap.size ∧ B ≤ b5 from by have q1:=HB2.out.size;have q2:=HC2.out.lt;have q3:=hl32;have q4:=hbc0;have q5:=hB;clear HB2;omega)
              have HST : Hid (CalBlk (w3.alloc (.map keyMap 7)) b5 (putAll ⟨cnm,ckd,cdy,cmo,csh,csp,cp0,cp1,cp2,ccy,cex,cfi,cla,cpo⟩ (ks.take 0)) ∧ (w3.alloc (.map keyMap 7)).heap[bk]? = some (.map keyMap 7) ∧ Below w.heap.size w (w3.alloc (.map keyMap 7)) ∧ CalBlk (w3.alloc (.map keyMap 7)) bc calZ ∧ (w3.alloc (.map keyMap 7)).cell? ⟨w.heap.size,1,none⟩ = some (.int .i64 p) ∧ bk < (w3.alloc (.map keyMap 7)).heap.size) := zh (by
                obtain ⟨z1,z2,z3,z4⟩:=HB3.out
                rw [hb5,hbk]
                exact ⟨z2.alloc _,heap_alloc_new w3 _,z1.alloc z1.size _,z3.alloc _,(World.cell?_alloc_lt w3 _ ⟨w.heap.size,1,none⟩ hl33).trans (zb z4 1),by simp⟩)
              rw [← hb5,← hbk]
              generalize World.alloc _ _ = W4 at *
              clear hb5 hbk e0 e1 e4 hl31 hl32 hl33 he3
              go_loopw [67] (fun i wr => ∃ k : Nat,k ≤ ks.length ∧ i = .int .i64 k ∧ CalBlk wr b5 (putAll ⟨cnm,ckd,cdy,cmo,csh,csp,cp0,cp1,cp2,ccy,cex,cfi,cla,cpo⟩ (ks.take k)) ∧ wr.heap[bk]? = some (.map keyMap 7) ∧ Below w.heap.size w wr ∧ CalBlk wr bc calZ ∧ wr.cell? ⟨w.heap.size,1,none⟩ = some (.int .i64 p) ∧ bk < wr.heap.size) (fun i _ => ks.length - (intOf i).toNat)
              case atStart => exact ⟨0,Nat.zero_le _,rfl,HST.out⟩
              case round =>
                obtain ⟨k,hk,rfl,r1,r2,r3,r4,r5,r6⟩:=hrel
                obtain ⟨o1,o2,o3,o4,o5⟩:=HBS.out
                have hbs:=r3.size
                by_cases hlt : k < ks.length
                · obtain ⟨x,hx⟩ : ∃ x,ks[k]? = some x := ⟨_,List.getElem?_eq_getElem hlt⟩
                  have hk' : ∀ q : Addr,q.block < B → wr.cell? q = w.cell? q:=fun q hq => r3.cell (by omega)
                  obtain ⟨ad',Aw',cw',Ak',ck',kcs',rfl,hab',d0,d1,d2,d3,d4,_,_,hrw',_,_⟩:=node_cells (HRK.out.keep (fun _ h => h) hk') (NodesOk.keep (fun _ h => h) hk' ks kcs HKS.out) k x hx
                  have hwl:=HKL.out.2 x (List.mem_of_getElem? hx)
                  obtain ⟨hb1,hb2,hb3⟩:=HFR.out.2.2 x (List.mem_of_getElem? hx)
                  have hin : keysL.contains x.name = true:=HFR.out.2.1 x.name (by rw [List.nil_append];exact List.mem_map.2 ⟨x,List.mem_of_getElem? hx,rfl⟩)
                  have hput:=putAll_two ⟨cnm,ckd,cdy,cmo,csh,csp,cp0,cp1,cp2,ccy,cex,cfi,cla,cpo⟩ ks k x hx
                  have lk : (k : Int) < ks.length:=by omega
                  have lk0 : (0 : Int) ≤ k:=by omega
                  have w1f : IntKind.i64.wrap ((k : Int) + 1) = (k : Int) + 1:=by rw [IntKind.wrap_i64];have:=HKL.out.1;omega
                  obtain ⟨xn,xp,xw,xb,xk⟩:=x
                  dsimp only [NodeL.name,NodeL.pos,NodeL.words,NodeL.block,NodeL.kids] at *
                  generalize hPA : putAll ⟨cnm,ckd,cdy,cmo,csh,csp,cp0,cp1,cp2,ccy,cex,cfi,cla,cpo⟩ (ks.take k) = pa at *
                  obtain ⟨wA,hwA⟩ : ∃ wA,wA = wr.alloc (.cells #[.string ⟨xn.toArray⟩, .int .i64 xp, .slice Aw' xw.length cw', .bool xb, .slice Ak' xk.length ck'] 44):=⟨_,rfl⟩
                  have s1 : CalBlk wA b5 pa:=by rw [hwA];exact r1.alloc _
                  have s2 : wA.heap[bk]? = some (.map keyMap 7):=by rw [hwA];exact (Go.heap_alloc_old wr _ r6).trans r2
                  have s3 : Below w.heap.size w wA:=by rw [hwA];exact r3.alloc hbs _
                  have s4 : CalBlk wA bc calZ:=by rw [hwA];exact r4.alloc _
                  have s5 : wA.cell? ⟨w.heap.size,1,none⟩ = some (.int .i64 p):=by rw [hwA];exact (World.cell?_alloc_lt wr _ ⟨w.heap.size,1,none⟩ (by show w.heap.size < _;omega)).trans r5
                  have s6 : bk < wA.heap.size:=by rw [hwA];simp;omega
                  have HS:=zh (And.intro s1 (And.intro s2 (And.intro s3 (And.intro s4 (And.intro s5 s6)))))
                  have HPUT:=zh hput
                  obtain ⟨xe,hxe⟩ : ∃ q,(xn == [101,110,100]) = q:=⟨_,rfl⟩
                  cases xe
                  · have hne : xn ≠ b_end := fun e => by rw [e] at hxe; revert hxe; decide
                    obtain ⟨f,hkf,hEN,hKA⟩:=key_fn xn hin
                    have hLK:=key_lookP wA bk xn s2
                    rw [hkf,hwA] at hLK
                    have hCC:=hKA pa xw Aw' cw' wA B b5 (fun e => absurd e hne) hb2 hwl (by omega) s1 (hrw'.keep (fun _ h => h) (fun q hq => by rw [hwA,World.cell?_alloc_lt _ _ _ (Nat.lt_of_lt_of_le hq (by omega))]))
                    have hp2 : (putK xn pa xw).2 = true := by
                      unfold putK at hb3 ⊢
                      rw [if_neg hne] at hb3 ⊢
                      rw [keyK_ok xn pa { calZ with name:=ts } xw]
                      exact hb3
                    have hp1 : (putK xn pa xw).1 = (keyK xn pa xw).1:=by unfold putK;rw [if_neg hne]
                    rw [hp2,hp1,hwA] at hCC
                    have HCC:=zh hCC
                    have HWA:=zh hwA
                    have HNE:=zh hne
                    clear hCC s1 s2 s3 s4 s5 s6 hwA r1 r2 r3 r4 r5 hput hx hrw' hk' hkf hKA hp1 hp2 hb1 hb2 hb3 hin hne hPA o1 o2 o3 o4 o5
                    go_wp2_with fail
                    refine HCC.out.mono ?_
                    rintro e w5 ⟨rfl,hc5,hs5⟩
                    have H5:=zh (And.intro hc5 hs5)
                    clear hc5 hs5
                    go_wp2_with fail
                    obtain ⟨hc5,hs5⟩:=H5.out
                    rw [← HWA.out] at hs5
                    obtain ⟨s1,s2,s3,s4,s5,s6⟩:=HS.out
                    obtain ⟨o1,o2,o3,o4,o5⟩:=HBS.out
                    refine ⟨⟨k + 1,by omega,by go_num,?_,(hs5.block bk s6 (by simp) (by intro e;injection e;omega)).trans s2,Step.toBelow s3 hs5 (by omega) s3.size,(hs5.block bc s4.lt (by simp) (by intro e;injection e;omega)).trans s4,(hs5.cell w.heap.size (by omega) (by intro e;injection e;omega) 1 (by simp)).trans s5,Nat.lt_of_lt_of_le s6 hs5.size⟩,by simp [intOf];omega⟩
                    rw [HPUT.out.2 HNE.out]
                    exact hc5
                  · have hne : xn = b_end := beq_iff_eq.1 hxe
                    have HNE:=zh hne
                    have HWA:=zh hwA
                    clear s1 s2 s3 s4 s5 s6 hwA r1 r2 r3 r4 r5 hput hx hrw' hk' hb1 hb2 hb3 hin hne hPA o1 o2 o3 o4 o5
                    go_wp2_with fail
                    rw [← HWA.out]
                    obtain ⟨s1,s2,s3,s4,s5,s6⟩:=HS.out
                    refine ⟨⟨k + 1,by omega,by go_num,?_,s2,s3,s4,s5,s6⟩,by simp [intOf];omega⟩
                    rw [HPUT.out.1 HNE.out]
                    exact s1
                · have lk : ¬ (k : Int) < ks.length := by omega
                  have hk2 : k = ks.length:=by omega
                  rw [hk2,List.take_length] at r1
                  generalize hPA : putAll ⟨cnm,ckd,cdy,cmo,csh,csp,cp0,cp1,cp2,ccy,cex,cfi,cla,cpo⟩ ks = pa at *
                  have hnl : pa.name.length ≤ maxLen := by
                    have h1:=HFIT.out.2
                    simp only [fitNs,fitN] at h1
                    have h2:=h1.1.2.2.1 ⟨false,tnn,ts,tp⟩ (by simp)
                    rw [← hPA,putAll_name]
                    rw [HCN.out]
                    exact h2
                  have HCH:=zh (field_Check pa hnl)
                  have HR2:=zh (fun ho => HRB.out.trans (rb_ok HF.out HFL.out HMI.out ho))
                  have HR3:=zh (fun ho => HRB.out.trans (rb_arg HF.out HFL.out HMI.out ho))
                  rw [hPA] at HR2 HR3
                  have HRR:=zh (And.intro r1 (And.intro r3 (And.intro r4 r5)))
                  clear hPA hnl r1 r2 r3 r4 r5 hk2
                  obtain ⟨ok,hok⟩ : ∃ b,okC pa = b:=⟨_,rfl⟩
                  have her : errC pa = if ok then 0 else 1:=by unfold errC;rw [hok]
                  rw [her] at HCH
                  clear her
                  have hx5:=HRR.out.1
                  have hl5:=hx5.lt
                  obtain ⟨g0,g1,g2,g3,g4,g5,g6,g7,g8,g9,g10,g11,g12,g13⟩:=cells14 hx5
                  obtain ⟨pnm,pkd,pdy,pmo,psh,psp,pp0,pp1,pp2,pcy,pex,pfi,pla,ppo⟩:=pa
                  dsimp only [calV] at *
                  cases ok
                  · have HR := zh (HR3.out hok)
                    clear hx5 hok
                    go_wp2_with fail
                    refine (HCH.out _).mono ?_
                    rintro e w6 ⟨rfl,hb6⟩
                    have hc6 : CalBlk w6 bc calZ:=HRR.out.2.2.1.keep hb6
                    have hp6 : w6.cell? ⟨w.heap.size,1,none⟩ = some (.int .i64 p):=(hb6.cell (p:=⟨w.heap.size,1,none⟩) (by have:=HBS.out;show w.heap.size < _;omega)).trans HRR.out.2.2.2
                    have HB6:=zh (HRR.out.2.1.trans (hb6.mono HRR.out.2.1.size))
                    clear hb6
                    dsimp only [CalBlk,calZ] at hc6
                    obtain ⟨c0,c1,c2,c3,c4,c5,c6,c7,c8,c9,c10,c11,c12,c13⟩:=cells14 hc6;obtain ⟨f0,f1,f2,f3,f4,f5,f6,f7,f8,f9,f10,f11,f12,f13⟩:=unf14 hc6
                    clear hc6
                    go_wp2_with fail
                    go_region
                    all_goals (
                      go_wp2_with fail
                      (refine bodyPost_ret (v:=.tuple #[calV calZ, .int .i64 p, .int .i64 1]) (by simp [results,calV,calZ,Tryz.results22,go_sem, *]) rfl ?_)
                      rw [HRP.out,HR.out]
                      exact ⟨rfl,(CalBlk.below HB6.out (Nat.le_of_lt hbc0) calZ).drew⟩)
                  · have HR := zh (HR2.out hok)
                    clear hx5 hok
                    go_wp2_with fail
                    refine (HCH.out _).mono ?_
                    rintro e w6 ⟨rfl,hb6⟩
                    have hc6 : CalBlk w6 bc calZ:=HRR.out.2.2.1.keep hb6
                    have hx6:=HRR.out.1.keep hb6
                    have HB6:=zh (HRR.out.2.1.trans (hb6.mono HRR.out.2.1.size))
                    clear hb6
                    dsimp only [CalBlk,calZ] at hc6
                    obtain ⟨c0,c1,c2,c3,c4,c5,c6,c7,c8,c9,c10,c11,c12,c13⟩:=cells14 hc6;obtain ⟨f0,f1,f2,f3,f4,f5,f6,f7,f8,f9,f10,f11,f12,f13⟩:=unf14 hc6
                    obtain ⟨g0,g1,g2,g3,g4,g5,g6,g7,g8,g9,g10,g11,g12,g13⟩:=cells14 hx6
                    clear hc6 hx6
                    go_wp2_with fail
                    refine bodyPost_ret (v:=.tuple #[calV ⟨pnm,pkd,pdy,pmo,psh,psp,pp0,pp1,pp2,pcy,pex,pfi,pla,ppo⟩, .int .i64 0, .int .i64 0]) (by simp [results,calV,Tryz.results22,go_sem, *]) rfl ?_
                    rw [HRP.out,HR.out]
                    exact ⟨rfl,CalBlk.below HB6.out (Nat.le_of_lt hbc0) ⟨pnm,pkd,pdy,pmo,psh,psp,pp0,pp1,pp2,pcy,pex,pfi,pla,ppo⟩⟩
            · obtain rfl : e = .returned (.tuple #[.int .i64 p, .int .i64 10]) := he3
              have HR := zh (HRB.out.trans (rb_miss HF.out (by have h1 := HFI.out; rw [HGM.out.1,List.take_zero] at h1; exact h1.symm) (by
                have h2:=HEND.out
                rw [← missA_eq _ _ (by simpa using h2)]
                exact HGM.out.2)))
              obtain ⟨c0,c1,c2,c3,c4,c5,c6,c7,c8,c9,c10,c11,c12,c13⟩:=cells14 hc3;obtain ⟨f0,f1,f2,f3,f4,f5,f6,f7,f8,f9,f10,f11,f12,f13⟩:=unf14 hc3
              clear hc3
              go_wp2_with fail
              (refine bodyPost_ret (v:=.tuple #[calV calZ, .int .i64 p, .int .i64 10]) (by simp [results,calV,calZ,Tryz.results22,go_sem, *]) rfl ?_)
              rw [HRP.out,HR.out]
              exact ⟨rfl,CalBlk.below HB3.out.1 (Nat.le_of_lt hbc0) calZ⟩
      · have HR := zh (HFORM.out (.inr (.inr (.inr rfl))))
        dsimp only [CalBlk,calZ] at hcal1
        obtain ⟨c0,c1,c2,c3,c4,c5,c6,c7,c8,c9,c10,c11,c12,c13⟩:=cells14 hcal1;obtain ⟨f0,f1,f2,f3,f4,f5,f6,f7,f8,f9,f10,f11,f12,f13⟩:=unf14 hcal1
        clear hcal1 hbad hw1
        go_wp2_with fail
        go_region
        all_goals (
          go_wp2_with fail
          (refine bodyPost_ret (v:=.tuple #[calV calZ, .int .i64 p, .int .i64 5]) (by simp [results,calV,calZ,Tryz.results22,go_sem, *]) rfl ?_)
          rw [HRP.out,HR.out]
          exact ⟨rfl,(CalBlk.below HBW.out (Nat.le_of_lt hbc0) calZ).drew⟩)
  · have hn0 : (ck0 != 0) = true := by simp [hck]
    have HR:=zh (show readC (.mk nm p ws b ks) = ⟨calZ,0,1⟩ by unfold readC;rw [if_pos (by rw [HCK.out];exact hck)])
    dsimp only [CalBlk,calZ] at hcal1
    obtain ⟨c0,c1,c2,c3,c4,c5,c6,c7,c8,c9,c10,c11,c12,c13⟩:=cells14 hcal1;obtain ⟨f0,f1,f2,f3,f4,f5,f6,f7,f8,f9,f10,f11,f12,f13⟩:=unf14 hcal1
    clear hcal1 y0 hck
    go_wp2_with fail
    (refine bodyPost_ret (v:=.tuple #[calV calZ, .int .i64 0, .int .i64 1]) (by simp [results,calV,calZ,Tryz.results22,go_sem, *]) rfl ?_)
    rw [HRP.out,HR.out]
    exact ⟨rfl,CalBlk.below HBW.out (Nat.le_of_lt hbc0) calZ⟩
end Go.Proofs.YtjbniichcopnlaaGreatDoor
