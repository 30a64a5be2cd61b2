/- Layer 9 (tree): what begins leaves, by the tokens. -/
import Derived.Test.YtpkhocbohhpmbaaPkR8
set_option linter.unusedVariables false
set_option linter.unusedSimpArgs false
namespace Go.Proofs.Ytpkhocbohhpmbaa
open Go.RowKit
theorem safe_nil (x : Nat) : Safe [] none x:=⟨fun j => by simp,by simp⟩
theorem PI.bad {w0 w w' : World} {M : Nat → Prop} {B0 r rb k : Nat} {st : List Fr} {io : Option It} (h : PI w0 w M B0 r rb k st io) (hs : Step w w' [] none) : Below B0 w0 w' :=
  below_of_step h.below hs h.size (fun x _ => safe_nil x)
theorem begins_bad {w0 w : World} {M : Nat → Prop} {B0 r rb k : Nat} {st : List Fr} (h : PI w0 w M B0 r rb k st none) (t : Tok) (h1 : t.kind ≠ 1) (h4 : t.kind ≠ 4 ∨ st.length ≤ 1) :
    Calls Try.prog 45 #[.pointer (some ⟨r,0,none⟩),tokV t] w (StepPost w0 w B0 r rb k (.bad 5)):=by
  cases st with
  | nil => have:=h.last;simp at this
  | cons x rest =>
    have hr0:=h.r0
    simp only [List.head?_cons,Option.map_some] at hr0
    obtain ⟨Aw,cw,bl,kcs,hO,_⟩:=h.stack.1
    unfold tokV
    refine (tree_begins_bad w r x.b t.kind t.pos t.n ⟨t.s.toArray⟩ _ hr0 hO.2.2.2.2.2.1 h1 ?_).mono ?_
    · rcases h4 with h4 | h4
      · exact .inl h4
      · right
        have : rest = []:=List.eq_nil_of_length_eq_zero (by simp only [List.length_cons] at h4;omega)
        subst this;rfl
    · rintro e w' ⟨rfl,hS⟩
      exact ⟨by decide,rfl,hS⟩
theorem begins_close {w0 w : World} {M : Nat → Prop} {B0 r rb k : Nat} {x y : Fr} {rest : List Fr} (h : PI w0 w M B0 r rb k (x :: y :: rest) none) (t : Tok) (ht : t.kind = 4) (hk : k ≤ 99999) :
    Calls Try.prog 45 #[.pointer (some ⟨r,0,none⟩),tokV t] w (StepPost w0 w B0 r rb k (.fine (y.f.add x.f.node :: rest.map Fr.f) none)):=by
  have hr0:=h.r0
  simp only [List.head?_cons,Option.map_some] at hr0
  obtain ⟨hx,hy,hrest⟩:=h.stack
  obtain ⟨Aw,cw,bl,kcx,hO,hbl,hnw,hrw,hox,hnx⟩:=hx
  obtain ⟨Aw',cw',bl',kcy,hO',hbl',hnw',hrw',hoy,hny⟩:=hy
  obtain rfl : bl = true:=hbl (by simp)
  have hnd:=h.nd
  have hbd:=h.bd
  have hsz:=h.size
  have e1 : r :: (stM (x :: y :: rest) ++ ioM none) = r :: (x.b :: (ownB x.A ++ (y.b :: (ownB y.A ++ stM rest)))):=by simp [stM_cons,Fr.ms,ioM]
  rw [e1] at hnd hbd
  have hky:=h.kids y (by simp)
  have hlen:=h.len
  simp only [List.length_cons] at hlen
  obtain ⟨R,hR⟩ : ∃ R,R = stM rest:=⟨_,rfl⟩
  rw [← hR] at hnd hbd
  have n1 : r ≠ y.b:=by grind
  have n2 : r ≠ x.b:=by grind
  have n3 : y.b ≠ x.b:=by grind
  have n4 : r ∉ ownB y.A:=by grind
  have n5 : y.b ∉ ownB y.A:=by grind
  have n6 : x.b ∉ ownB y.A:=by grind
  have nrx : (r :: y.b :: R).Nodup:=by grind
  have dT : ∀ z,z ∈ R ∨ z ∈ ownB x.A → z ∉ [y.b,r] ++ ownB y.A:=by grind
  have dg : ∀ z ∈ ownB y.A,z ∉ r :: x.b :: (ownB x.A ++ y.b :: R):=by grind
  have dx : ∀ z ∈ r :: y.b :: R,z ∉ ownB x.A:=by grind
  have hr2:=h.r2
  simp only [List.length_cons] at hr2
  unfold tokV
  rw [ht]
  refine (tree_begins_close w r x.b y.b B0 y.f.kids.length y.c y.A kcy _ t.pos t.n ⟨t.s.toArray⟩ ⟨x.f.name.toArray⟩ x.f.pos Aw x.A x.f.words.length cw x.f.kids.length x.c true _ hr0 h.r1 hr2 h.rf (by omega) hO
    hO'.2.2.2.2.1 (hO'.2.2.2.2.2.2 4) hoy (by omega) hsz (fun e => n4 (mem_ownB.2 e)) (fun e => n5 (mem_ownB.2 e)) (fun e => n6 (mem_ownB.2 e)) n1 n2 n3).mono ?_
  rintro e w' ⟨rfl,g,cap,ho1,hat,hglt,hp4,hr0',hr1',hr2',hS⟩
  have hgo : g ∈ ownB y.A ∨ w.heap.size ≤ g:=hat.imp mem_ownB.2 id
  have hw':=hS.size
  have hsafe : ∀ z,z ∉ [y.b,r] ++ ownB y.A → Safe [(y.b,4),(r,0),(r,1),(r,2)] (Value.ownBlock (.slice y.A y.f.kids.length y.c)) z := fun z hz =>
    safe_of ([y.b,r] ++ ownB y.A) (by simp) (fun u hu => by simp [mem_ownB.2 hu]) hz
  have hMT : ∀ z,M z → z ∉ [y.b,r] ++ ownB y.A := fun z hz hm => by
    have:=(hbd z (by simp only [List.mem_append,List.mem_cons,List.not_mem_nil,or_false] at hm ⊢;rcases hm with (hm | hm) | hm <;> simp [hm])).2.2
    exact this hz
  have hM : ∀ z,M z → z < w.heap.size ∧ Safe [(y.b,4),(r,0),(r,1),(r,2)] (Value.ownBlock (.slice y.A y.f.kids.length y.c)) z:=fun z hz => ⟨(h.mb z hz).2,hsafe z (hMT z hz)⟩
  have hxs : ∀ z ∈ ownB x.A,Safe [(y.b,4),(r,0),(r,1),(r,2)] (Value.ownBlock (.slice y.A y.f.kids.length y.c)) z:=fun z hz => hsafe z (dT z (.inr hz))
  have lyb:=(hbd y.b (by simp)).2.1
  have hgn : g ∉ r :: x.b :: (ownB x.A ++ y.b :: R) := fun hm => by
    rcases hgo with hg | hg
    · exact dg g hg hm
    · have := (hbd g (by simp only [List.mem_append,List.mem_cons] at hm ⊢; rcases hm with hm | hm | hm | hm | hm <;> simp [hm])).2.1
      omega
  have hgB : B0 ≤ g := by
    rcases hgo with hg | hg
    · exact (hbd g (by simp [hg])).1
    · omega
  have hgM : ¬ M g := fun hm => by
    rcases hgo with hg | hg
    · exact (hbd g (by simp [hg])).2.2 hm
    · have:=(h.mb g hm).2;omega
  have hup : (rest.head?.map Fr.b) = ((y :: rest).tail.head?.map Fr.b):=rfl
  have hrow : Value.ownBlock (.slice y.A y.f.kids.length y.c) ≠ some y.b:=fun e => n5 (mem_ownB.2 e)
  refine ⟨rfl,fun z => M z ∨ z ∈ ownB x.A,⟨y.b,y.f.add x.f.node,some ⟨g,0,none⟩,cap⟩ :: rest,none,rfl,rfl,?_⟩
  have hc : ∀ p : Addr,M p.block → w'.cell? p = w.cell? p:=fun p hp => World.cell?_of_block (hS.same (hM _ hp).1 (hM _ hp).2)
  have hox':=hS.own' hox hxs
  obtain ⟨hrk,hnk⟩:=reads_of_own hox' (fun z => M z ∨ z ∈ ownB x.A) (fun z hz => .inr hz)
  have hnode : NodeOk w' (fun z => M z ∨ z ∈ ownB x.A) x.f.node [.string ⟨x.f.name.toArray⟩, .int .i64 x.f.pos, .slice Aw x.f.words.length cw, .bool true, .slice x.A x.f.kids.length x.c] := by
    unfold FrameL.node
    simp only [NodeOk]
    exact ⟨Aw,cw,x.A,x.c,kcx,rfl,hnw,hnk,hrw.keep (fun _ hb => .inl hb) hc,hrk,NodesOk.keep (fun _ hb => .inl hb) hc _ _ hnx⟩
  have cy : ∀ j,j ≠ 4 → w'.cell? ⟨y.b,j,none⟩ = w.cell? ⟨y.b,j,none⟩:=fun j hj => hS.cell y.b lyb (fun e => hrow e.symm) j (by simp [hj,Ne.symm n1])
  exact
    { below := below_of_step h.below hS hsz (fun z hz => hsafe z (fun hm => by
        have:=(hbd z (by simp only [List.mem_append,List.mem_cons,List.not_mem_nil,or_false] at hm ⊢;rcases hm with (hm | hm) | hm <;> simp [hm])).1
        omega))
      stack := ⟨⟨Aw',cw',bl',kcy ++ [.string ⟨x.f.name.toArray⟩, .int .i64 x.f.pos, .slice Aw x.f.words.length cw, .bool true, .slice x.A x.f.kids.length x.c],
          ⟨(cy 0 (by decide)).trans hO'.1,(cy 1 (by decide)).trans hO'.2.1,(cy 2 (by decide)).trans hO'.2.2.1,(cy 3 (by decide)).trans hO'.2.2.2.1,by simpa [FrameL.add] using hp4,(cy 5 (by decide)).trans hO'.2.2.2.2.2.1,
            fun j => (hS.froz y.b lyb (fun e => hrow e.symm) j).trans (hO'.2.2.2.2.2.2 j)⟩,hbl',hnw',hrw'.keep (fun _ hb => .inl hb) hc,by simpa [FrameL.add] using ho1,
          NodesOk.append (NodesOk.keep (fun _ hb => .inl hb) hc _ _ hny) (NodesOk.one hnode)⟩,
        hrest.keep hS hM (fun _ hb => .inl hb) (fun z hz => hsafe z (dT z (.inl (by rw [hR];exact hz))))⟩
      item:=fun z hz => by cases hz
      r0:=hr0'
      r1:=hr1'
      r2:=by rw [hr2'];congr 2;simp only [List.length_cons];omega
      rf:=fun j => (hS.froz r (hbd r (by simp)).2.1 (fun e => n4 (mem_ownB.2 e.symm)) j).trans (h.rf j)
      nd := by
        show (r :: ((y.b :: [g]) ++ stM rest ++ [])).Nodup
        rw [← hR]
        have g1 : g ∉ r :: y.b :: R:=fun hm => hgn (by simp only [List.mem_append,List.mem_cons] at hm ⊢;rcases hm with hm | hm | hm <;> simp [hm])
        grind
      bd := fun z hz => by
        have hz' : z ∈ r :: y.b :: R ∨ z = g := by
          rw [hR]
          simp only [stM_cons,Fr.ms,ownB,ioM,List.mem_append,List.mem_cons,Option.map_some,Option.toList_some,List.not_mem_nil,or_false] at hz ⊢
          rcases hz with hz | (hz | hz) | hz <;> simp [hz]
        rcases hz' with hz' | rfl
        · obtain ⟨a,b,c⟩ := hbd z (by simp only [List.mem_append,List.mem_cons] at hz' ⊢; rcases hz' with hz' | hz' | hz' <;> simp [hz'])
          exact ⟨a,by omega,fun hm => hm.elim c (dx z hz')⟩
        · exact ⟨hgB,hglt,fun hm => hm.elim hgM (fun hm => hgn (by simp [hm]))⟩
      mb := fun z hz => by
        rcases hz with hz | hz
        · obtain ⟨a,b⟩:=h.mb z hz;exact ⟨a,by omega⟩
        · obtain ⟨a,b,_⟩:=hbd z (by simp [hz]);exact ⟨a,by omega⟩
      last := by
        have:=h.last
        cases rest with
        | nil => simpa using this
        | cons a b => simpa using this
      kids := fun z hz => by
        rcases List.mem_cons.1 hz with rfl | hz
        · simp only [FrameL.add,List.length_append,List.length_singleton];omega
        · have:=h.kids z (by simp [hz]);omega
      size:=by omega
      words:=fun z hz => by cases hz
      len:=by simp only [List.length_cons];omega
      shp := fun z hz => by
        rcases List.mem_cons.1 hz with rfl | hz
        · exact shape_keep hS (h.shp y (by simp)) hrow
        · refine shape_keep hS (h.shp z (by simp [hz])) (fun e => dT z.b (.inl (by rw [hR]; exact mem_stM hz)) ?_)
          have:=mem_ownB.2 e
          simp [this]
      ish:=fun z hz => by cases hz }
end Go.Proofs.Ytpkhocbohhpmbaa
