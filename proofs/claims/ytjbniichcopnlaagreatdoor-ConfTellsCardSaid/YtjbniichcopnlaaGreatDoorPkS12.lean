/- Layer 9 (tree): what goes leaves, by the tokens. -/
import Derived.Test.YtjbniichcopnlaaGreatDoorPkS11
set_option linter.unusedVariables false
set_option linter.unusedSimpArgs false
namespace Go.Proofs.YtjbniichcopnlaaGreatDoor
open Go.RowKit
theorem PI.top {w0 w : World} {M : Nat → Prop} {B0 r rb k : Nat} {st : List Fr} {io : Option It} (h : PI w0 w M B0 r rb k st io) : ∃ y rest,st = y :: rest := by
  cases st with
  | nil => have:=h.last;simp at this
  | cons y rest => exact ⟨y,rest,rfl⟩
theorem goes_long {w0 w : World} {M : Nat → Prop} {B0 r rb k : Nat} {st : List Fr} {x : It} (h : PI w0 w M B0 r rb k st (some x)) (t : Tok) (ht : t.kind = 1 ∨ t.kind = 2) (h8 : x.i.words.length = 8) :
    Calls Tryz.prog 43 #[.pointer (some ⟨r,0,none⟩),tokV t] w (StepPost w0 w B0 r rb k (.bad 6)):=by
  have hO:=(h.item x rfl).1
  have h2:=hO.2.2.1
  rw [h8] at h2
  unfold tokV
  refine (tree_goes_long w r x.b t.kind t.pos t.n ⟨t.s.toArray⟩ x.A x.c h.r1 h2 ht).mono ?_
  rintro e w' ⟨rfl,hS⟩
  exact ⟨by decide,rfl,hS⟩
theorem goes_bad {w0 w : World} {M : Nat → Prop} {B0 r rb k : Nat} {st : List Fr} {x : It} (h : PI w0 w M B0 r rb k st (some x)) (t : Tok) (ht : t.kind ≠ 1 ∧ t.kind ≠ 2 ∧ t.kind ≠ 3 ∧ t.kind ≠ 5) :
    Calls Tryz.prog 43 #[.pointer (some ⟨r,0,none⟩),tokV t] w (StepPost w0 w B0 r rb k (.bad 5)):=by
  unfold tokV
  refine (tree_goes_bad w r t.kind t.pos t.n ⟨t.s.toArray⟩ ht).mono ?_
  rintro e w' ⟨rfl,hS⟩
  exact ⟨by decide,rfl,hS⟩
theorem goes_deep {w0 w : World} {M : Nat → Prop} {B0 r rb k : Nat} {st : List Fr} {x : It} (h : PI w0 w M B0 r rb k st (some x)) (t : Tok) (ht : t.kind = 3) (h7 : st.length = 7) :
    Calls Tryz.prog 43 #[.pointer (some ⟨r,0,none⟩),tokV t] w (StepPost w0 w B0 r rb k (.bad 7)):=by
  have h2:=h.r2
  rw [h7] at h2
  unfold tokV
  rw [ht]
  refine (tree_goes_deep w r t.pos t.n ⟨t.s.toArray⟩ h2).mono ?_
  rintro e w' ⟨rfl,hS⟩
  exact ⟨by decide,rfl,hS⟩
theorem goes_open {w0 w : World} {M : Nat → Prop} {B0 r rb k : Nat} {st : List Fr} {x : It} (h : PI w0 w M B0 r rb k st (some x)) (t : Tok) (ht : t.kind = 3) (h7 : st.length ≠ 7) :
    Calls Tryz.prog 43 #[.pointer (some ⟨r,0,none⟩),tokV t] w (StepPost w0 w B0 r rb k (.fine (⟨x.i.name,x.i.pos,x.i.words,[]⟩ :: st.map Fr.f) none)):=by
  obtain ⟨y,rest,rfl⟩:=h.top
  obtain ⟨hO,hox⟩:=h.item x rfl
  have hnd:=h.nd
  have hbd:=h.bd
  have hsz:=h.size
  have hlen:=h.len
  have e1 : r :: (stM (y :: rest) ++ ioM (some x)) = r :: (stM (y :: rest) ++ x.b :: ownB x.A):=rfl
  rw [e1] at hnd hbd
  obtain ⟨R,hR⟩ : ∃ R,R = stM (y :: rest):=⟨_,rfl⟩
  rw [← hR] at hnd hbd
  have n1 : r ≠ x.b:=by grind
  have nd2 : (r :: x.b :: R).Nodup:=by grind
  have dT : ∀ z,z ∈ R ∨ z ∈ ownB x.A → z ∉ [r,x.b]:=by grind
  have dx : ∀ z ∈ r :: x.b :: R,z ∉ ownB x.A:=by grind
  unfold tokV
  rw [ht]
  have hl1 : (y :: rest).length = rest.length + 1:=rfl
  refine (tree_goes_open w r x.b (((y :: rest).length : Int) - 1) t.pos t.n ⟨t.s.toArray⟩ _ _ h.r0 h.r1 h.r2 (by omega) h.rf hO.2.2.2.1 (hO.2.2.2.2.2.2 3) n1).mono ?_
  rintro e w' ⟨rfl,hr0',hr1',hr2',hx3,hS⟩
  have hw':=hS.size
  have hsafe : ∀ z,z ∉ [r,x.b] → Safe [(r,0),(r,1),(r,2),(x.b,3)] none z:=fun z hz => safe_of [r,x.b] (by simp) (by simp) hz
  have hMT : ∀ z,M z → z ∉ [r,x.b] := fun z hz hm => by
    have:=(hbd z (by simp only [List.mem_cons,List.not_mem_nil,or_false,List.mem_append] at hm ⊢;rcases hm with hm | hm <;> simp [hm])).2.2
    exact this hz
  have hM : ∀ z,M z → z < w.heap.size ∧ Safe [(r,0),(r,1),(r,2),(x.b,3)] none z:=fun z hz => ⟨(h.mb z hz).2,hsafe z (hMT z hz)⟩
  have lxb:=(hbd x.b (by simp)).2.1
  have cx : ∀ j,j ≠ 3 → w'.cell? ⟨x.b,j,none⟩ = w.cell? ⟨x.b,j,none⟩:=fun j hj => hS.cell x.b lxb (by simp) j (by simp [hj,Ne.symm n1])
  have hox':=hS.own' hox (fun z hz => hsafe z (dT z (.inr hz)))
  obtain ⟨hrk,hnk⟩:=reads_of_own hox' (fun z => M z ∨ z ∈ ownB x.A) (fun z hz => .inr hz)
  refine ⟨rfl,fun z => M z ∨ z ∈ ownB x.A,⟨x.b,⟨x.i.name,x.i.pos,x.i.words,[]⟩,none,0⟩ :: y :: rest,none,rfl,rfl,?_⟩
  exact
    { below := below_of_step h.below hS hsz (fun z hz => hsafe z (fun hm => by
        have:=(hbd z (by simp only [List.mem_append,List.mem_cons,List.not_mem_nil,or_false] at hm ⊢;rcases hm with hm | hm <;> simp [hm])).1
        omega))
      stack := ⟨⟨x.A,x.c,true,[],⟨(cx 0 (by decide)).trans hO.1,(cx 1 (by decide)).trans hO.2.1,(cx 2 (by decide)).trans hO.2.2.1,hx3,(cx 4 (by decide)).trans hO.2.2.2.2.1,(cx 5 (by decide)).trans hO.2.2.2.2.2.1,
            fun j => (hS.froz x.b lxb (by simp) j).trans (hO.2.2.2.2.2.2 j)⟩,fun _ => rfl,hnk,hrk,⟨rfl, .inl ⟨rfl,rfl⟩⟩,rfl⟩,
        h.stack.keep hS hM (fun _ hb => .inl hb) (fun z hz => hsafe z (dT z (.inl (by rw [hR];exact hz))))⟩
      item:=fun z hz => by cases hz
      r0:=hr0'
      r1:=hr1'
      r2:=by rw [hr2'];congr 2;simp only [List.length_cons];omega
      rf:=fun j => (hS.froz r (hbd r (by simp)).2.1 (by simp) j).trans (h.rf j)
      nd := by
        show (r :: ((x.b :: []) ++ stM (y :: rest) ++ [])).Nodup
        rw [← hR]
        simpa using nd2
      bd := fun z hz => by
        have hz' : z ∈ r :: x.b :: R := by
          have hz2 : z ∈ r :: ((x.b :: []) ++ stM (y :: rest) ++ []):=hz
          rw [← hR] at hz2
          simpa using hz2
        obtain ⟨a,b,c⟩:=hbd z (by simp only [List.mem_append,List.mem_cons] at hz' ⊢;rcases hz' with hz' | hz' | hz' <;> simp [hz'])
        exact ⟨a,by omega,fun hm => hm.elim c (dx z hz')⟩
      mb := fun z hz => by
        rcases hz with hz | hz
        · obtain ⟨a,b⟩:=h.mb z hz;exact ⟨a,by omega⟩
        · obtain ⟨a,b,_⟩:=hbd z (by simp [hz]);exact ⟨a,by omega⟩
      last := by
        have:=h.last
        simpa using this
      kids := fun z hz => by
        rcases List.mem_cons.1 hz with rfl | hz
        · simp
        · have:=h.kids z hz;omega
      size:=by omega
      words:=fun z hz => by cases hz
      len:=by simp only [List.length_cons] at hlen h7 ⊢;omega
      shp := fun z hz => by
        rcases List.mem_cons.1 hz with rfl | hz
        · exact shape_keep hS (h.ish x rfl) (by simp)
        · exact shape_keep hS (h.shp z hz) (by simp)
      ish:=fun z hz => by cases hz }
theorem goes_word {w0 w : World} {M : Nat → Prop} {B0 r rb k : Nat} {st : List Fr} {x : It} (h : PI w0 w M B0 r rb k st (some x)) (t : Tok) (ht : t.kind = 1 ∨ t.kind = 2) (h8 : x.i.words.length ≠ 8) :
    Calls Tryz.prog 43 #[.pointer (some ⟨r,0,none⟩),tokV t] w
      (StepPost w0 w B0 r rb k (.fine (st.map Fr.f) (some { x.i with words:=x.i.words ++ [⟨decide (t.kind = 2),t.n,t.s,t.pos⟩] }))):=by
  obtain ⟨y,rest,rfl⟩:=h.top
  obtain ⟨hO,hox⟩:=h.item x rfl
  have hnd:=h.nd
  have hbd:=h.bd
  have hsz:=h.size
  have hw8:=h.words x rfl
  have e1 : r :: (stM (y :: rest) ++ ioM (some x)) = r :: (stM (y :: rest) ++ x.b :: ownB x.A):=rfl
  rw [e1] at hnd hbd
  obtain ⟨R,hR⟩ : ∃ R,R = stM (y :: rest):=⟨_,rfl⟩
  rw [← hR] at hnd hbd
  have n1 : r ≠ x.b:=by grind
  have n2 : r ∉ ownB x.A:=by grind
  have n3 : x.b ∉ ownB x.A:=by grind
  have nd2 : (r :: (R ++ [x.b])).Nodup:=by grind
  have dT : ∀ z,z ∈ r :: R → z ∉ [x.b] ++ ownB x.A:=by grind
  have dg : ∀ z ∈ ownB x.A,z ∉ r :: (R ++ [x.b]):=by grind
  have key : Calls Tryz.prog 43 #[.pointer (some ⟨r,0,none⟩),tokV t] w
      (WordPost w x.b B0 x.i.words.length x.A x.c (x.i.words.flatMap WordL.cells) (WordL.cells ⟨decide (t.kind = 2),t.n,t.s,t.pos⟩)):=by
    unfold tokV
    rcases ht with ht | ht
    · rw [ht]
      exact tree_goes_word1 w r x.b B0 x.i.words.length x.c x.A _ t.pos t.n ⟨t.s.toArray⟩ h.r1 hO.2.2.1 (hO.2.2.2.2.2.2 2) hox (by omega) hsz (fun e => n2 (mem_ownB.2 e)) (fun e => n3 (mem_ownB.2 e)) n1
    · rw [ht]
      exact tree_goes_word2 w r x.b B0 x.i.words.length x.c x.A _ t.pos t.n ⟨t.s.toArray⟩ h.r1 hO.2.2.1 (hO.2.2.2.2.2.2 2) hox (by omega) hsz (fun e => n2 (mem_ownB.2 e)) (fun e => n3 (mem_ownB.2 e)) n1
  refine key.mono ?_
  rintro e w' ⟨rfl,g,cap,ho1,hat,hglt,hb2,hS⟩
  have hgo : g ∈ ownB x.A ∨ w.heap.size ≤ g:=hat.imp mem_ownB.2 id
  have hw':=hS.size
  have hsafe : ∀ z,z ∉ [x.b] ++ ownB x.A → Safe [(x.b,2)] (Value.ownBlock (.slice x.A x.i.words.length x.c)) z := fun z hz =>
    safe_of ([x.b] ++ ownB x.A) (by simp) (fun u hu => by simp [mem_ownB.2 hu]) hz
  have hMT : ∀ z,M z → z ∉ [x.b] ++ ownB x.A := fun z hz hm => by
    have:=(hbd z (by simp only [List.mem_append,List.mem_cons,List.not_mem_nil,or_false] at hm ⊢;rcases hm with hm | hm <;> simp [hm])).2.2
    exact this hz
  have hM : ∀ z,M z → z < w.heap.size ∧ Safe [(x.b,2)] (Value.ownBlock (.slice x.A x.i.words.length x.c)) z:=fun z hz => ⟨(h.mb z hz).2,hsafe z (hMT z hz)⟩
  have lxb:=(hbd x.b (by simp)).2.1
  have hrow : Value.ownBlock (.slice x.A x.i.words.length x.c) ≠ some x.b:=fun e => n3 (mem_ownB.2 e)
  have hrowr : Value.ownBlock (.slice x.A x.i.words.length x.c) ≠ some r:=fun e => n2 (mem_ownB.2 e)
  have lr:=(hbd r (by simp)).2.1
  have cx : ∀ j,j ≠ 2 → w'.cell? ⟨x.b,j,none⟩ = w.cell? ⟨x.b,j,none⟩:=fun j hj => hS.cell x.b lxb (fun e => hrow e.symm) j (by simp [hj])
  have cr : ∀ j,w'.cell? ⟨r,j,none⟩ = w.cell? ⟨r,j,none⟩:=fun j => hS.cell r lr (fun e => hrowr e.symm) j (by simp [n1])
  have hgn : g ∉ r :: (R ++ [x.b]) := fun hm => by
    rcases hgo with hg | hg
    · exact dg g hg hm
    · have := (hbd g (by simp only [List.mem_append,List.mem_cons,List.not_mem_nil,or_false] at hm ⊢; rcases hm with hm | hm | hm <;> simp [hm])).2.1
      omega
  have hgB : B0 ≤ g := by
    rcases hgo with hg | hg
    · exact (hbd g (by simp [hg])).1
    · omega
  have hgM : ¬ M g := fun hm => by
    rcases hgo with hg | hg
    · exact (hbd g (by simp [hg])).2.2 hm
    · have:=(h.mb g hm).2;omega
  refine ⟨rfl,M,y :: rest,some ⟨x.b,{ x.i with words:=x.i.words ++ [⟨decide (t.kind = 2),t.n,t.s,t.pos⟩] },some ⟨g,0,none⟩,cap⟩,rfl,rfl,?_⟩
  exact
    { below := below_of_step h.below hS hsz (fun z hz => hsafe z (fun hm => by
        have:=(hbd z (by simp only [List.mem_append,List.mem_cons,List.not_mem_nil,or_false] at hm ⊢;rcases hm with hm | hm <;> simp [hm])).1
        omega))
      stack:=h.stack.keep hS hM (fun _ hb => hb) (fun z hz => hsafe z (dT z (by rw [hR];simp [hz])))
      item := fun z hz => by
        cases hz
        refine ⟨⟨(cx 0 (by decide)).trans hO.1,(cx 1 (by decide)).trans hO.2.1,by simpa using hb2,(cx 3 (by decide)).trans hO.2.2.2.1,(cx 4 (by decide)).trans hO.2.2.2.2.1,(cx 5 (by decide)).trans hO.2.2.2.2.2.1,
            fun j => (hS.froz x.b lxb (fun e => hrow e.symm) j).trans (hO.2.2.2.2.2.2 j)⟩,?_⟩
        simpa [List.flatMap_append] using ho1
      r0:=(cr 0).trans h.r0
      r1:=(cr 1).trans h.r1
      r2:=(cr 2).trans h.r2
      rf:=fun j => (hS.froz r lr (fun e => hrowr e.symm) j).trans (h.rf j)
      nd := by
        show (r :: (stM (y :: rest) ++ (x.b :: [g]))).Nodup
        rw [← hR]
        grind
      bd := fun z hz => by
        have hz' : z ∈ r :: (R ++ [x.b]) ∨ z = g := by
          have hz2 : z ∈ r :: (stM (y :: rest) ++ (x.b :: [g])):=hz
          rw [← hR] at hz2
          simp only [List.mem_append,List.mem_cons,List.not_mem_nil,or_false] at hz2 ⊢
          rcases hz2 with hz | hz | hz | hz <;> simp [hz]
        rcases hz' with hz' | rfl
        · obtain ⟨a,b,c⟩ := hbd z (by simp only [List.mem_append,List.mem_cons,List.not_mem_nil,or_false] at hz' ⊢; rcases hz' with hz' | hz' | hz' <;> simp [hz'])
          exact ⟨a,by omega,c⟩
        · exact ⟨hgB,hglt,hgM⟩
      mb:=fun z hz => by obtain ⟨a,b⟩:=h.mb z hz;exact ⟨a,by omega⟩
      last:=h.last
      kids:=fun z hz => by have:=h.kids z hz;omega
      size:=by omega
      words:=fun z hz => by cases hz;simp only [List.length_append,List.length_singleton];omega
      len:=h.len
      shp:=fun z hz => shape_keep hS (h.shp z hz) (fun e => dT z.b (by rw [hR];simp [mem_stM hz]) (by simp [mem_ownB.2 e]))
      ish:=fun z hz => by cases hz;exact shape_keep hS (h.ish x rfl) hrow }
theorem goes_end {w0 w : World} {M : Nat → Prop} {B0 r rb k : Nat} {y : Fr} {rest : List Fr} {x : It} (h : PI w0 w M B0 r rb k (y :: rest) (some x)) (t : Tok) (ht : t.kind = 5) (hk : k ≤ 99999) :
    Calls Tryz.prog 43 #[.pointer (some ⟨r,0,none⟩),tokV t] w (StepPost w0 w B0 r rb k (.fine (y.f.add x.i.node :: rest.map Fr.f) none)):=by
  have hr0:=h.r0
  simp only [List.head?_cons,Option.map_some] at hr0
  obtain ⟨hO,hox⟩:=h.item x rfl
  obtain ⟨hy,hrest⟩:=h.stack
  obtain ⟨Aw',cw',bl',kcy,hO',hbl',hnw',hrw',hoy,hny⟩:=hy
  have hnd:=h.nd
  have hbd:=h.bd
  have hsz:=h.size
  have e1 : r :: (stM (y :: rest) ++ ioM (some x)) = r :: (y.b :: (ownB y.A ++ (stM rest ++ x.b :: ownB x.A))):=by simp [stM_cons,Fr.ms,ioM,It.ms]
  rw [e1] at hnd hbd
  have hky:=h.kids y (by simp)
  have hlen:=h.len
  obtain ⟨R,hR⟩ : ∃ R,R = stM rest:=⟨_,rfl⟩
  rw [← hR] at hnd hbd
  have n1 : r ≠ y.b:=by grind
  have n2 : r ≠ x.b:=by grind
  have n3 : y.b ≠ x.b:=by grind
  have n4 : r ∉ ownB y.A:=by grind
  have n5 : y.b ∉ ownB y.A:=by grind
  have n6 : x.b ∉ ownB y.A:=by grind
  have nrx : (r :: y.b :: R).Nodup:=by grind
  have dT : ∀ z,z ∈ R ∨ z ∈ ownB x.A → z ∉ [y.b,r] ++ ownB y.A:=by grind
  have dg : ∀ z ∈ ownB y.A,z ∉ r :: y.b :: (R ++ x.b :: ownB x.A):=by grind
  have dx : ∀ z ∈ r :: y.b :: R,z ∉ ownB x.A:=by grind
  unfold tokV
  rw [ht]
  refine (tree_goes_end w r y.b x.b B0 y.f.kids.length y.c y.A kcy t.pos t.n ⟨t.s.toArray⟩ ⟨x.i.name.toArray⟩ x.i.pos x.A none x.i.words.length x.c 0 0 false _ hr0 h.r1 h.rf hO
    hO'.2.2.2.2.1 (hO'.2.2.2.2.2.2 4) hoy (by omega) hsz (fun e => n4 (mem_ownB.2 e)) (fun e => n5 (mem_ownB.2 e)) (fun e => n6 (mem_ownB.2 e)) n1 n2 n3).mono ?_
  rintro e w' ⟨rfl,g,cap,ho1,hat,hglt,hp4,hr1',hS⟩
  have hgo : g ∈ ownB y.A ∨ w.heap.size ≤ g:=hat.imp mem_ownB.2 id
  have hw':=hS.size
  have hsafe : ∀ z,z ∉ [y.b,r] ++ ownB y.A → Safe [(y.b,4),(r,1)] (Value.ownBlock (.slice y.A y.f.kids.length y.c)) z := fun z hz =>
    safe_of ([y.b,r] ++ ownB y.A) (by simp) (fun u hu => by simp [mem_ownB.2 hu]) hz
  have hMT : ∀ z,M z → z ∉ [y.b,r] ++ ownB y.A := fun z hz hm => by
    have:=(hbd z (by simp only [List.mem_append,List.mem_cons,List.not_mem_nil,or_false] at hm ⊢;rcases hm with (hm | hm) | hm <;> simp [hm])).2.2
    exact this hz
  have hM : ∀ z,M z → z < w.heap.size ∧ Safe [(y.b,4),(r,1)] (Value.ownBlock (.slice y.A y.f.kids.length y.c)) z:=fun z hz => ⟨(h.mb z hz).2,hsafe z (hMT z hz)⟩
  have hxs : ∀ z ∈ ownB x.A,Safe [(y.b,4),(r,1)] (Value.ownBlock (.slice y.A y.f.kids.length y.c)) z:=fun z hz => hsafe z (dT z (.inr hz))
  have lyb:=(hbd y.b (by simp)).2.1
  have lr:=(hbd r (by simp)).2.1
  have hgn : g ∉ r :: y.b :: (R ++ x.b :: ownB x.A) := fun hm => by
    rcases hgo with hg | hg
    · exact dg g hg hm
    · have := (hbd g (by simp only [List.mem_append,List.mem_cons] at hm ⊢; rcases hm with hm | hm | hm | hm | hm <;> simp [hm])).2.1
      omega
  have hgB : B0 ≤ g := by
    rcases hgo with hg | hg
    · exact (hbd g (by simp [hg])).1
    · omega
  have hgM : ¬ M g := fun hm => by
    rcases hgo with hg | hg
    · exact (hbd g (by simp [hg])).2.2 hm
    · have:=(h.mb g hm).2;omega
  have hrow : Value.ownBlock (.slice y.A y.f.kids.length y.c) ≠ some y.b:=fun e => n5 (mem_ownB.2 e)
  have hrowr : Value.ownBlock (.slice y.A y.f.kids.length y.c) ≠ some r:=fun e => n4 (mem_ownB.2 e)
  have cr : ∀ j,j ≠ 1 → w'.cell? ⟨r,j,none⟩ = w.cell? ⟨r,j,none⟩:=fun j hj => hS.cell r lr (fun e => hrowr e.symm) j (by simp [hj,n1])
  refine ⟨rfl,fun z => M z ∨ z ∈ ownB x.A,⟨y.b,y.f.add x.i.node,some ⟨g,0,none⟩,cap⟩ :: rest,none,rfl,rfl,?_⟩
  have hc : ∀ p : Addr,M p.block → w'.cell? p = w.cell? p:=fun p hp => World.cell?_of_block (hS.same (hM _ hp).1 (hM _ hp).2)
  have hox':=hS.own' hox hxs
  obtain ⟨hrk,hnk⟩:=reads_of_own hox' (fun z => M z ∨ z ∈ ownB x.A) (fun z hz => .inr hz)
  have hnode : NodeOk w' (fun z => M z ∨ z ∈ ownB x.A) x.i.node [.string ⟨x.i.name.toArray⟩, .int .i64 x.i.pos, .slice x.A x.i.words.length x.c, .bool false, .slice none 0 0] := by
    unfold ItemL.node
    simp only [NodeOk]
    exact ⟨x.A,x.c,none,0,[],rfl,hnk,fun _ => rfl,hrk,ReadsM.nil _ _ _ _,rfl⟩
  have cy : ∀ j,j ≠ 4 → w'.cell? ⟨y.b,j,none⟩ = w.cell? ⟨y.b,j,none⟩:=fun j hj => hS.cell y.b lyb (fun e => hrow e.symm) j (by simp [hj,Ne.symm n1])
  exact
    { below := below_of_step h.below hS hsz (fun z hz => hsafe z (fun hm => by
        have:=(hbd z (by simp only [List.mem_append,List.mem_cons,List.not_mem_nil,or_false] at hm ⊢;rcases hm with (hm | hm) | hm <;> simp [hm])).1
        omega))
      stack := ⟨⟨Aw',cw',bl',kcy ++ [.string ⟨x.i.name.toArray⟩, .int .i64 x.i.pos, .slice x.A x.i.words.length x.c, .bool false, .slice none 0 0],
          ⟨(cy 0 (by decide)).trans hO'.1,(cy 1 (by decide)).trans hO'.2.1,(cy 2 (by decide)).trans hO'.2.2.1,(cy 3 (by decide)).trans hO'.2.2.2.1,by simpa [FrameL.add] using hp4,(cy 5 (by decide)).trans hO'.2.2.2.2.2.1,
            fun j => (hS.froz y.b lyb (fun e => hrow e.symm) j).trans (hO'.2.2.2.2.2.2 j)⟩,hbl',hnw',hrw'.keep (fun _ hb => .inl hb) hc,by simpa [FrameL.add] using ho1,
          NodesOk.append (NodesOk.keep (fun _ hb => .inl hb) hc _ _ hny) (NodesOk.one hnode)⟩,
        hrest.keep hS hM (fun _ hb => .inl hb) (fun z hz => hsafe z (dT z (.inl (by rw [hR];exact hz))))⟩
      item:=fun z hz => by cases hz
      r0:=(cr 0 (by decide)).trans h.r0
      r1:=hr1'
      r2:=(cr 2 (by decide)).trans h.r2
      rf:=fun j => (hS.froz r lr (fun e => hrowr e.symm) j).trans (h.rf j)
      nd := by
        show (r :: ((y.b :: [g]) ++ stM rest ++ [])).Nodup
        rw [← hR]
        have g1 : g ∉ r :: y.b :: R:=fun hm => hgn (by simp only [List.mem_append,List.mem_cons] at hm ⊢;rcases hm with hm | hm | hm <;> simp [hm])
        grind
      bd := fun z hz => by
        have hz' : z ∈ r :: y.b :: R ∨ z = g := by
          rw [hR]
          simp only [stM_cons,Fr.ms,ownB,ioM,List.mem_append,List.mem_cons,Option.map_some,Option.toList_some,List.not_mem_nil,or_false] at hz ⊢
          rcases hz with hz | (hz | hz) | hz <;> simp [hz]
        rcases hz' with hz' | rfl
        · obtain ⟨a,b,c⟩ := hbd z (by simp only [List.mem_append,List.mem_cons] at hz' ⊢; rcases hz' with hz' | hz' | hz' <;> simp [hz'])
          exact ⟨a,by omega,fun hm => hm.elim c (dx z hz')⟩
        · exact ⟨hgB,hglt,fun hm => hm.elim hgM (fun hm => hgn (by simp [hm]))⟩
      mb := fun z hz => by
        rcases hz with hz | hz
        · obtain ⟨a,b⟩:=h.mb z hz;exact ⟨a,by omega⟩
        · obtain ⟨a,b,_⟩:=hbd z (by simp [hz]);exact ⟨a,by omega⟩
      last := by
        have:=h.last
        cases rest with
        | nil => simpa using this
        | cons a b => simpa using this
      kids := fun z hz => by
        rcases List.mem_cons.1 hz with rfl | hz
        · simp only [FrameL.add,List.length_append,List.length_singleton];omega
        · have:=h.kids z (by simp [hz]);omega
      size:=by omega
      words:=fun z hz => by cases hz
      len:=h.len
      shp := fun z hz => by
        rcases List.mem_cons.1 hz with rfl | hz
        · exact shape_keep hS (h.shp y (by simp)) hrow
        · refine shape_keep hS (h.shp z (by simp [hz])) (fun e => dT z.b (.inl (by rw [hR]; exact mem_stM hz)) ?_)
          have:=mem_ownB.2 e
          simp [this]
      ish:=fun z hz => by cases hz }
/-! ### A token,whatever it is -/
theorem begins_step {w0 w : World} {B0 r rb k : Nat} {fs : List FrameL} (h : PInv w0 w B0 r rb k fs none) (t : Tok) (hk : k ≤ 99999) :
    Calls Tryz.prog 42 #[.pointer (some ⟨r,0,none⟩),tokV t] w (StepPost w0 w B0 r rb k (beginT fs t)):=by
  obtain ⟨M,st,io,rfl,hio,hp⟩:=h
  cases io with
  | some x => simp at hio
  | none =>
    unfold beginT
    by_cases h1 : t.kind = 1
    · rw [if_pos h1];exact begins_name hp t h1
    · rw [if_neg h1]
      by_cases h4 : t.kind = 4
      · rw [if_pos h4]
        match st,hp with
        | [],hp => exact begins_bad hp t h1 (.inr (by simp))
        | [x],hp => exact begins_bad hp t h1 (.inr (by simp))
        | x :: y :: rest,hp => exact begins_close hp t h4 hk
      · rw [if_neg h4];exact begins_bad hp t h1 (.inl h4)
theorem goes_step {w0 w : World} {B0 r rb k : Nat} {fs : List FrameL} {i : ItemL} (h : PInv w0 w B0 r rb k fs (some i)) (t : Tok) (hk : k ≤ 99999) :
    Calls Tryz.prog 43 #[.pointer (some ⟨r,0,none⟩),tokV t] w (StepPost w0 w B0 r rb k (goT fs i t)):=by
  obtain ⟨M,st,io,rfl,hio,hp⟩:=h
  cases io with
  | none => simp at hio
  | some x =>
    obtain rfl : i = x.i:=by simpa using hio
    unfold goT
    by_cases h12 : t.kind = 1 ∨ t.kind = 2
    · rw [if_pos h12]
      by_cases h8 : x.i.words.length = 8
      · rw [if_pos h8];exact goes_long hp t h12 h8
      · rw [if_neg h8];exact goes_word hp t h12 h8
    · rw [if_neg h12]
      by_cases h5 : t.kind = 5
      · rw [if_pos h5]
        obtain ⟨y,rest,rfl⟩:=hp.top
        exact goes_end hp t h5 hk
      · rw [if_neg h5]
        by_cases h3 : t.kind = 3
        · rw [if_pos h3]
          by_cases h7 : st.length = 7
          · rw [if_pos (by simpa using h7)];exact goes_deep hp t h3 h7
          · rw [if_neg (by simpa using h7)];exact goes_open hp t h3 h7
        · rw [if_neg h3];exact goes_bad hp t ⟨fun e => h12 (.inl e),fun e => h12 (.inr e),h3,h5⟩
end Go.Proofs.YtjbniichcopnlaaGreatDoor
