/- The program's plain data as Lean data, and how they lie in memory. -/
import Derived.Test.YtejbkjndipineaaGreatDoorOp
import Derived.Test.YtejbkjndipineaaGreatDoorProg
import Derived.Lib.Hide
import Derived.BigQuiet
import Derived.Deep.QuietTactic
import Derived.KernelRfl
namespace Go.Proofs.YtejbkjndipineaaGreatDoor
open Go Go.RowKit
set_option linter.unusedVariables false
set_option linter.unusedSimpArgs false
namespace PR

structure Seg where
  kind : Int
  text : ByteArray
deriving DecidableEq
structure Rule where
  kind : Int
  flag : Int
  to : ByteArray
structure Record where
  name : ByteArray
  parent : Int
  segs : List Seg
  comp : Int
  keep : Bool
  rule : Rule
structure Pair where
  name : ByteArray
  value : ByteArray
deriving DecidableEq
structure URL where
  path : List ByteArray
  query : List Pair

def eSeg : Enc Seg := eIso (ePair (eInt .i64) eStr) (fun s => (s.kind, s.text))
def eRule : Enc Rule := eIso (ePair (eInt .i64) (ePair (eInt .i64) eStr)) (fun r => (r.kind, r.flag, r.to))
def eRecord : Enc Record := eIso (ePair eStr (ePair (eInt .i64) (ePair (eSl eSeg) (ePair (eInt .i64) (ePair eBool eRule))))) (fun r => (r.name, r.parent, r.segs, r.comp, r.keep, r.rule))
def ePairS : Enc Pair := eIso (ePair eStr eStr) (fun p => (p.name, p.value))
def eURL : Enc URL := eIso (ePair (eSl eStr) (eSl ePairS)) (fun u => (u.path, u.query))

theorem eSeg_open {w : World} {B : Nat → Prop} {s : Seg} {cs : List Value} (h : eSeg.R w B s cs) : cs = [.int .i64 s.kind, .string s.text] ∧ s.text.size ≤ maxLen := by
  obtain ⟨_, _, rfl, rfl, rfl, h⟩ := h; exact ⟨rfl, h⟩
theorem eSeg_mk (w : World) (B : Nat → Prop) (s : Seg) (h : s.text.size ≤ maxLen) : eSeg.R w B s [.int .i64 s.kind, .string s.text] := ⟨_, _, rfl, rfl, rfl, h⟩
theorem eRule_open {w : World} {B : Nat → Prop} {r : Rule} {cs : List Value} (h : eRule.R w B r cs) : cs = [.int .i64 r.kind, .int .i64 r.flag, .string r.to] ∧ r.to.size ≤ maxLen := by
  obtain ⟨_, _, rfl, rfl, _, _, rfl, rfl, rfl, h⟩ := h; exact ⟨rfl, h⟩
theorem eRule_mk (w : World) (B : Nat → Prop) (r : Rule) (h : r.to.size ≤ maxLen) : eRule.R w B r [.int .i64 r.kind, .int .i64 r.flag, .string r.to] := ⟨_, _, rfl, rfl, _, _, rfl, rfl, rfl, h⟩
theorem eRecord_open {w : World} {B : Nat → Prop} {r : Record} {cs : List Value} (h : eRecord.R w B r cs) :
    ∃ v, cs = [.string r.name, .int .i64 r.parent, v, .int .i64 r.comp, .bool r.keep, .int .i64 r.rule.kind, .int .i64 r.rule.flag, .string r.rule.to] ∧ Sl eSeg w B v r.segs ∧ r.name.size ≤ maxLen ∧ r.rule.to.size ≤ maxLen := by
  obtain ⟨_, _, rfl, ⟨rfl, hn⟩, _, _, rfl, rfl, _, _, rfl, ⟨v, rfl, hv⟩, _, _, rfl, rfl, _, _, rfl, rfl, h⟩ := h
  obtain ⟨rfl, hr⟩ := eRule_open h
  exact ⟨v, rfl, hv, hn, hr⟩
theorem eRecord_mk {w : World} {B : Nat → Prop} {r : Record} {v : Value} (hv : Sl eSeg w B v r.segs) (hn : r.name.size ≤ maxLen) (hr : r.rule.to.size ≤ maxLen) :
    eRecord.R w B r [.string r.name, .int .i64 r.parent, v, .int .i64 r.comp, .bool r.keep, .int .i64 r.rule.kind, .int .i64 r.rule.flag, .string r.rule.to] :=
  ⟨[_], _, rfl, ⟨rfl, hn⟩, [_], _, rfl, rfl, [_], _, rfl, ⟨v, rfl, hv⟩, [_], _, rfl, rfl, [_], _, rfl, rfl, eRule_mk w B r.rule hr⟩
theorem ePair_open {w : World} {B : Nat → Prop} {p : Pair} {cs : List Value} (h : ePairS.R w B p cs) : cs = [.string p.name, .string p.value] ∧ p.name.size ≤ maxLen ∧ p.value.size ≤ maxLen := by
  obtain ⟨_, _, rfl, ⟨rfl, h1⟩, rfl, h2⟩ := h; exact ⟨rfl, h1, h2⟩
theorem ePair_mk (w : World) (B : Nat → Prop) (p : Pair) (h1 : p.name.size ≤ maxLen) (h2 : p.value.size ≤ maxLen) : ePairS.R w B p [.string p.name, .string p.value] := ⟨_, _, rfl, ⟨rfl, h1⟩, rfl, h2⟩
theorem eURL_open {w : World} {B : Nat → Prop} {u : URL} {cs : List Value} (h : eURL.R w B u cs) : ∃ p q, cs = [p, q] ∧ Sl eStr w B p u.path ∧ Sl ePairS w B q u.query := by
  obtain ⟨_, _, rfl, ⟨p, rfl, hp⟩, ⟨q, rfl, hq⟩⟩ := h; exact ⟨p, q, rfl, hp, hq⟩
theorem eURL_mk {w : World} {B : Nat → Prop} {u : URL} {p q : Value} (hp : Sl eStr w B p u.path) (hq : Sl ePairS w B q u.query) : eURL.R w B u [p, q] := ⟨[_], [_], rfl, ⟨p, rfl, hp⟩, ⟨q, rfl, hq⟩⟩

/-- An element of a slice of strings, of numbers. -/
theorem Sl.str_at {w : World} {B : Nat → Prop} {A : Option Addr} {n cap : Nat} {xs : List ByteArray} (h : Sl eStr w B (.slice A n cap) xs) (i : Nat) (hi : i < xs.length) :
    ∃ b off, A = some ⟨b, off, none⟩ ∧ B b ∧ b < w.heap.size ∧ w.cell? ⟨b, off + i, none⟩ = some (.string xs[i]) ∧ xs[i].size ≤ maxLen := by
  obtain ⟨b, off, cs, e, hB, hl, ⟨rfl, hm⟩, hc⟩ := h.at_ i hi
  exact ⟨b, off, e, hB, hl, by simpa [eStr] using hc 0 _ rfl, hm⟩
theorem Sl.int_at {k : IntKind} {w : World} {B : Nat → Prop} {A : Option Addr} {n cap : Nat} {xs : List Int} (h : Sl (eInt k) w B (.slice A n cap) xs) (i : Nat) (hi : i < xs.length) :
    ∃ b off, A = some ⟨b, off, none⟩ ∧ B b ∧ b < w.heap.size ∧ w.cell? ⟨b, off + i, none⟩ = some (.int k xs[i]) := by
  obtain ⟨b, off, cs, e, hB, hl, rfl, hc⟩ := h.at_ i hi
  exact ⟨b, off, e, hB, hl, by simpa [eInt] using hc 0 _ rfl⟩
theorem Sl.bool_at {w : World} {B : Nat → Prop} {A : Option Addr} {n cap : Nat} {xs : List Bool} (h : Sl eBool w B (.slice A n cap) xs) (i : Nat) (hi : i < xs.length) :
    ∃ b off, A = some ⟨b, off, none⟩ ∧ B b ∧ b < w.heap.size ∧ w.cell? ⟨b, off + i, none⟩ = some (.bool xs[i]) := by
  obtain ⟨b, off, cs, e, hB, hl, rfl, hc⟩ := h.at_ i hi
  exact ⟨b, off, e, hB, hl, by simpa [eBool] using hc 0 _ rfl⟩
theorem Sl.seg_at {w : World} {B : Nat → Prop} {A : Option Addr} {n cap : Nat} {xs : List Seg} (h : Sl eSeg w B (.slice A n cap) xs) (i : Nat) (hi : i < xs.length) :
    ∃ b off, A = some ⟨b, off, none⟩ ∧ B b ∧ b < w.heap.size ∧ w.cell? ⟨b, off + i * 2, none⟩ = some (.int .i64 xs[i].kind) ∧ w.cell? ⟨b, off + i * 2 + 1, none⟩ = some (.string xs[i].text) ∧ xs[i].text.size ≤ maxLen := by
  obtain ⟨b, off, cs, e, hB, hl, hR, hc⟩ := h.at_ i hi
  obtain ⟨rfl, hm⟩ := eSeg_open hR
  exact ⟨b, off, e, hB, hl, hc 0 _ rfl, hc 1 _ rfl, hm⟩
theorem Sl.rule_at {w : World} {B : Nat → Prop} {A : Option Addr} {n cap : Nat} {xs : List Rule} (h : Sl eRule w B (.slice A n cap) xs) (i : Nat) (hi : i < xs.length) :
    ∃ b off, A = some ⟨b, off, none⟩ ∧ B b ∧ b < w.heap.size ∧ w.cell? ⟨b, off + i * 3, none⟩ = some (.int .i64 xs[i].kind) ∧ w.cell? ⟨b, off + i * 3 + 1, none⟩ = some (.int .i64 xs[i].flag) ∧ w.cell? ⟨b, off + i * 3 + 2, none⟩ = some (.string xs[i].to) ∧ xs[i].to.size ≤ maxLen := by
  obtain ⟨b, off, cs, e, hB, hl, hR, hc⟩ := h.at_ i hi
  obtain ⟨rfl, hm⟩ := eRule_open hR
  exact ⟨b, off, e, hB, hl, hc 0 _ rfl, hc 1 _ rfl, hc 2 _ rfl, hm⟩
theorem Sl.pair_at {w : World} {B : Nat → Prop} {A : Option Addr} {n cap : Nat} {xs : List Pair} (h : Sl ePairS w B (.slice A n cap) xs) (i : Nat) (hi : i < xs.length) :
    ∃ b off, A = some ⟨b, off, none⟩ ∧ B b ∧ b < w.heap.size ∧ w.cell? ⟨b, off + i * 2, none⟩ = some (.string xs[i].name) ∧ w.cell? ⟨b, off + i * 2 + 1, none⟩ = some (.string xs[i].value) ∧ xs[i].name.size ≤ maxLen ∧ xs[i].value.size ≤ maxLen := by
  obtain ⟨b, off, cs, e, hB, hl, hR, hc⟩ := h.at_ i hi
  obtain ⟨rfl, hm⟩ := ePair_open hR
  exact ⟨b, off, e, hB, hl, hc 0 _ rfl, hc 1 _ rfl, hm⟩
theorem Sl.record_at {w : World} {B : Nat → Prop} {A : Option Addr} {n cap : Nat} {xs : List Record} (h : Sl eRecord w B (.slice A n cap) xs) (i : Nat) (hi : i < xs.length) :
    ∃ b off v, A = some ⟨b, off, none⟩ ∧ B b ∧ b < w.heap.size ∧ Sl eSeg w B v xs[i].segs ∧ w.cell? ⟨b, off + i * 8, none⟩ = some (.string xs[i].name) ∧ w.cell? ⟨b, off + i * 8 + 1, none⟩ = some (.int .i64 xs[i].parent) ∧
      w.cell? ⟨b, off + i * 8 + 2, none⟩ = some v ∧ w.cell? ⟨b, off + i * 8 + 3, none⟩ = some (.int .i64 xs[i].comp) ∧ w.cell? ⟨b, off + i * 8 + 4, none⟩ = some (.bool xs[i].keep) ∧
      w.cell? ⟨b, off + i * 8 + 5, none⟩ = some (.int .i64 xs[i].rule.kind) ∧ w.cell? ⟨b, off + i * 8 + 6, none⟩ = some (.int .i64 xs[i].rule.flag) ∧ w.cell? ⟨b, off + i * 8 + 7, none⟩ = some (.string xs[i].rule.to) ∧ xs[i].name.size ≤ maxLen ∧ xs[i].rule.to.size ≤ maxLen := by
  obtain ⟨b, off, cs, e, hB, hl, hR, hc⟩ := h.at_ i hi
  obtain ⟨v, rfl, hv, hm⟩ := eRecord_open hR
  exact ⟨b, off, v, e, hB, hl, hv, hc 0 _ rfl, hc 1 _ rfl, hc 2 _ rfl, hc 3 _ rfl, hc 4 _ rfl, hc 5 _ rfl, hc 6 _ rfl, hc 7 _ rfl, hm⟩

theorem infoInt : (Tryz.prog.info? 3).map (fun i => (i.zero, i.size, i.bytes)) = some (some (.int .i64 0), 1, 8) := by kernel_rfl
theorem infoStr : (Tryz.prog.info? 9).map (fun i => (i.zero, i.size, i.bytes)) = some (some (.string ⟨#[]⟩), 1, 16) := by kernel_rfl
theorem infoRule : (Tryz.prog.info? 44).map (fun i => (i.zero, i.size, i.bytes)) = some (some (.agg #[(.int .i64 0), (.int .i64 0), (.string ⟨#[]⟩)]), 3, 32) := by kernel_rfl
theorem infoSeg : (Tryz.prog.info? 59).map (fun i => (i.zero, i.size, i.bytes)) = some (some (.agg #[(.int .i64 0), (.string ⟨#[]⟩)]), 2, 24) := by kernel_rfl
theorem infoPair : (Tryz.prog.info? 52).map (fun i => (i.zero, i.size, i.bytes)) = some (some (.agg #[(.string ⟨#[]⟩), (.string ⟨#[]⟩)]), 2, 32) := by kernel_rfl
theorem infoRecord : (Tryz.prog.info? 46).map (fun i => (i.zero, i.size, i.bytes)) = some (some (.agg #[(.string ⟨#[]⟩), (.int .i64 0), (.slice none 0 0), (.int .i64 0), (.bool false), (.int .i64 0), (.int .i64 0), (.string ⟨#[]⟩)]), 8, 96) := by kernel_rfl
end PR
end Go.Proofs.YtejbkjndipineaaGreatDoor
