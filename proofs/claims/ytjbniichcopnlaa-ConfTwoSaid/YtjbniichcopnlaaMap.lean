/- Laws for maps with integer or string keys whose entries are known whole: a map literal that is looked up at once, a map that the call fills. Over any program. -/
import Derived.WalkKit
import Derived.Below
namespace Go.Proofs.Ytjbniichcopnlaa
open Go.RowKit

/-- The keys that the laws know: integers of one kind, or strings. -/
inductive KeyOk : TypeDesc → Value → Prop where
  | int (q : IntKind) (n : Int) : KeyOk (.int q) (.int q n)
  | str (s : ByteArray) : KeyOk .string (.string s)

/-- Whether two keys are the same one. -/
def sameKey : Value → Value → Bool
  | .int _ a, .int _ b => a == b
  | .string a, .string b => a == b
  | _, _ => false

/-- The entry of a key, and its place. -/
def findE (k : Value) : List MapEntry → Nat → Option (Nat × Value)
  | [], _ => none
  | e :: es, i => if sameKey k e.key then some (i, e.val) else findE k es (i + 1)

theorem sameNow_ok {d : TypeDesc} {a b : Value} (ha : KeyOk d a) (hb : KeyOk d b) : Instr.sameNow d a b = some (sameKey a b) := by
  cases ha <;> cases hb <;> simp [Instr.sameNow, sameKey]

theorem findNow_ok {d : TypeDesc} {k : Value} (hk : KeyOk d k) : ∀ (es : List MapEntry) (i : Nat), (∀ e ∈ es, KeyOk d e.key) → Instr.findNow d k es i = some (findE k es i)
  | [], _, _ => rfl
  | e :: es, i, h => by
    have h1 := sameNow_ok hk (h e (by simp))
    have h2 := findNow_ok hk es (i + 1) (fun e he => h e (by simp [he]))
    unfold Instr.findNow findE
    rw [h1]
    cases sameKey k e.key <;> simp [h2]

theorem KeyOk.isKey {d : TypeDesc} {k : Value} (h : KeyOk d k) : MapKept.IsKey d k := by cases h <;> simp [MapKept.IsKey]

section
variable {P : Program} {T K E : TypeId} {d : TypeDesc} {w : World} {b : Nat} {es : Array MapEntry} {clock : Nat} {k v : Value}

theorem run_checkKey_ok (hK : P.underlying K = some d) (hk : KeyOk d k) (em : Bool) : (Instr.checkKey em 10000 K k).run P w = .ok () w :=
  MapKept.run_checkKey hK hk.isKey em 9999

theorem run_findKey_ok (hK : P.underlying K = some d) (hk : KeyOk d k) (l : List MapEntry) (hes : ∀ e ∈ l, KeyOk d e.key) : (Instr.findKey K k l).run P w = .ok (findE k l 0) w := by
  simp [Instr.findKey, run_underlying hK, findNow_ok hk l 0 hes]

theorem run_getMap (hb : w.heap[b]? = some (.map es clock)) : (getObj b).run P w = .ok (.map es clock) w := by
  simp [getObj, Sem.run, hb]

theorem run_setMap (hb : w.heap[b]? = some (.map es clock)) (o : Obj) : (setObj b o).run P w = .ok () { w with heap := w.heap.setIfInBounds b o } := by
  simp [setObj, Sem.run, hb]

/-- A new key into a map. -/
theorem run_mapUpdate_new (hT : P.underlying T = some (.map K E)) (hK : P.underlying K = some d) (hk : KeyOk d k) (hes : ∀ e ∈ es.toList, KeyOk d e.key) (hnew : findE k es.toList 0 = none) (hb : w.heap[b]? = some (.map es clock)) :
    (Instr.mapUpdate T (.map (some b)) k v).run P w = .ok () { w with heap := w.heap.setIfInBounds b (.map (es.push { key := k, val := v, born := clock }) (clock + 1)) } := by
  simp [Instr.mapUpdate, run_underlying hT, run_getMap hb, run_checkKey_ok hK hk, run_findKey_ok hK hk es.toList hes, hnew, run_setMap hb, Result.andThen]

/-- The same, the map being the block that was laid last. -/
theorem run_mapUpdate_last (hT : P.underlying T = some (.map K E)) (hK : P.underlying K = some d) (hk : KeyOk d k) (hes : ∀ e ∈ es.toList, KeyOk d e.key) (hnew : findE k es.toList 0 = none) :
    (Instr.mapUpdate T (.map (some w.heap.size)) k v).run P (w.alloc (.map es clock)) = .ok () (w.alloc (.map (es.push { key := k, val := v, born := clock }) (clock + 1))) := by
  rw [run_mapUpdate_new hT hK hk hes hnew (heap_alloc_new w _)]
  show Result.ok () { w.alloc (.map es clock) with heap := (w.heap.push (.map es clock)).setIfInBounds w.heap.size _ } = _
  simp only [World.alloc]
  congr 2
  apply Array.ext'
  simp [Array.setIfInBounds, Array.toList_push]

/-- A look-up that asks whether the key is there. -/
theorem run_lookup_ok (hT : P.underlying T = some (.map K E)) (hK : P.underlying K = some d) (hk : KeyOk d k) (hes : ∀ e ∈ es.toList, KeyOk d e.key) {z : Value} (hz : (zeroValue E).run P w = .ok z w) (hb : w.heap[b]? = some (.map es clock)) :
    (Instr.lookup T (.map (some b)) k true).run P w = .ok (.tuple #[((findE k es.toList 0).map (·.2)).getD z, .bool (findE k es.toList 0).isSome]) w := by
  cases hf : findE k es.toList 0 <;>
    simp [Instr.lookup, run_underlying hT, run_getMap hb, run_checkKey_ok hK hk, run_findKey_ok hK hk es.toList hes, hf, hz, Result.andThen]

/-- A look-up that does not ask. -/
theorem run_lookup_plain (hT : P.underlying T = some (.map K E)) (hK : P.underlying K = some d) (hk : KeyOk d k) (hes : ∀ e ∈ es.toList, KeyOk d e.key) {z : Value} (hz : (zeroValue E).run P w = .ok z w) (hb : w.heap[b]? = some (.map es clock)) :
    (Instr.lookup T (.map (some b)) k false).run P w = .ok (((findE k es.toList 0).map (·.2)).getD z) w := by
  cases hf : findE k es.toList 0 <;>
    simp [Instr.lookup, run_underlying hT, run_getMap hb, run_checkKey_ok hK hk, run_findKey_ok hK hk es.toList hes, hf, hz, Result.andThen]

end
end Go.Proofs.Ytjbniichcopnlaa
