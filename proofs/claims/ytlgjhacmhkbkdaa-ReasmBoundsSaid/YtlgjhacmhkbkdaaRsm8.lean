/- reasm: what Add does, in plain words. -/
import Derived.Test.YtlgjhacmhkbkdaaRsm5
import Derived.Test.YtlgjhacmhkbkdaaSortP
namespace Go.Proofs.Ytlgjhacmhkbkdaa
open Go.RowKit

/-- An entry, in plain words. -/
structure Ent where
  key : Key
  ps : List Pc
  done : Bool
  age : Int

def absE (e : PEn) : Ent := ⟨e.key, e.ps, e.done, e.age⟩

def keyH (h : Hdr) : Key := ⟨h.src, h.dst, h.proto, h.id⟩

def sizeL (L : List Ent) : Nat := (L.map fun e => sumP e.ps).sum

/-- What a whole list of pieces answers. -/
def madeP (l : List Pc) : ByteArray × Nat := ip4put { (l.headD ⟨Hdr.zero, ⟨#[]⟩⟩).h with mf := false } ⟨(allB l).toArray⟩

/-- An entry with one piece more. -/
def putE (e : Ent) (x : Pc) : Ent := if wholeP (sortP (e.ps ++ [x])) then { e with ps := [], done := true } else { e with ps := sortP (e.ps ++ [x]) }
/-- What is told of it. -/
def tellE (e : Ent) (x : Pc) : ByteArray × Nat := if wholeP (sortP (e.ps ++ [x])) then madeP (sortP (e.ps ++ [x])) else (⟨#[]⟩, 10)

/-- Why an entry doesn't take a piece; 0: it does. -/
def whyE (e : Ent) (x : Pc) : Nat := if e.done then 12 else if e.ps.any (likeP x) then 10 else if e.ps.any (fun o => !fitP x o) then 14 else 0

def newE (k : Key) : Ent := ⟨k, [], false, 0⟩

/-- A right piece that is added. -/
def addX (ent byt : Int) (L : List Ent) (x : Pc) : List Ent × ByteArray × Nat :=
  match L.find? (fun e => decide (e.key = keyH x.h)) with
  | some e => if whyE e x ≠ 0 then (L, ⟨#[]⟩, whyE e x) else if byt < (sizeL L : Int) + x.s.size then (L, ⟨#[]⟩, 11) else (L.map (fun y => if y.key = keyH x.h then putE e x else y), tellE e x)
  | none => if ent ≤ (L.length : Int) ∨ byt < (sizeL L : Int) + x.s.size then (L, ⟨#[]⟩, 11) else (L ++ [putE (newE (keyH x.h)) x], tellE (newE (keyH x.h)) x)

/-- Is there no room? -/
def fullX (ent byt : Int) (L : List Ent) (x : Pc) (ok : Bool) : Bool := (!ok && decide (ent ≤ (L.length : Int))) || decide (byt < (sizeL L : Int) + (x.s.size : Int))

def nextX (L : List Ent) (x : Pc) (ok : Bool) (e : Ent) : List Ent := if ok then L.map (fun y => if y.key = keyH x.h then putE e x else y) else L ++ [putE e x]

theorem addX_is {ent byt : Int} {L : List Ent} {x : Pc} {ok : Bool} {e : Ent} (h : (ok = true ∧ L.find? (fun e => decide (e.key = keyH x.h)) = some e) ∨ (ok = false ∧ L.find? (fun e => decide (e.key = keyH x.h)) = none ∧ e = newE (keyH x.h))) :
    addX ent byt L x = if whyE e x ≠ 0 then (L, ⟨#[]⟩, whyE e x) else if fullX ent byt L x ok = true then (L, ⟨#[]⟩, 11) else (nextX L x ok e, tellE e x) := by
  rcases h with ⟨rfl, h⟩ | ⟨rfl, h, rfl⟩
  · unfold addX
    rw [h]
    simp only [fullX, nextX, Bool.not_true, Bool.false_and, Bool.false_or, decide_eq_true_eq, if_true]
  · unfold addX
    rw [h]
    have : whyE (newE (keyH x.h)) x = 0 := by simp [whyE, newE]
    rw [this]
    simp only [fullX, nextX, Bool.not_false, Bool.true_and, Bool.or_eq_true, decide_eq_true_eq, ne_eq, not_true_eq_false, if_false, Bool.false_eq_true]

/-- Bytes that are added. -/
def addP (ent byt : Int) (L : List Ent) (t : ByteArray) : List Ent × ByteArray × Nat :=
  if (ip4get t).2.2 ≠ 0 then (L, ⟨#[]⟩, (ip4get t).2.2)
  else if oddP ⟨(ip4get t).1, (ip4get t).2.1⟩ then (L, ⟨#[]⟩, 4)
  else addX ent byt L ⟨(ip4get t).1, (ip4get t).2.1⟩

/-- What a right text tells. -/
theorem ip4get_ok {t : ByteArray} (h : (ip4get t).2.2 = 0) : Pc.ok ⟨(ip4get t).1, (ip4get t).2.1⟩ ∧ (keyH (ip4get t).1).ok ∧ t.size ≤ 65535 ∧ (ip4get t).2.1.size + 20 ≤ t.size := by
  have he : ip4err t = 0 := by
    unfold ip4get at h
    by_cases h0 : ip4err t = 0
    · exact h0
    · rw [if_neg h0] at h; exact absurd h h0
  have hg : ip4get t = (ip4hdr t, ip4pay t, 0) := by unfold ip4get; rw [if_pos he]
  rw [hg]
  have n2 : num t 2 2 < 65536 := val_take_lt (t.data.toList.drop 2) 2
  have hl : ¬ t.size < 20 ∧ ¬ (hlen t < 20 ∨ t.size < hlen t ∨ num t 2 2 ≠ t.size) := by
    unfold ip4err at he
    by_cases c1 : t.size < 20
    · rw [if_pos c1] at he; cases he
    · rw [if_neg c1] at he
      by_cases c2 : num t 0 1 / 16 ≠ 4
      · rw [if_pos c2] at he; cases he
      · rw [if_neg c2] at he
        by_cases c3 : hlen t < 20 ∨ t.size < hlen t ∨ num t 2 2 ≠ t.size
        · rw [if_pos c3] at he; cases he
        · exact ⟨c1, c3⟩
  have h60 : hlen t ≤ 60 := by unfold hlen; omega
  have n1 : num t 9 1 < 256 := val_take_lt (t.data.toList.drop 9) 1
  have n4 : num t 4 2 < 65536 := val_take_lt (t.data.toList.drop 4) 2
  refine ⟨⟨?_, ?_, ?_, ?_, ?_, ?_⟩, ⟨?_, ?_, ?_, ?_, ?_, ?_⟩, by omega, ?_⟩
  · show (0 : Int) ≤ (num t 6 2 : Int) % 8192; omega
  · show (num t 6 2 : Int) % 8192 ≤ 8191; omega
  · show (t.extract (hlen t) t.size).size ≤ _; rw [ByteArray.size_extract]; omega
  · show (t.extract 12 16).size ≤ _; rw [ByteArray.size_extract]; omega
  · show (t.extract 16 20).size ≤ _; rw [ByteArray.size_extract]; omega
  · show (t.extract 20 (hlen t)).size ≤ _; rw [ByteArray.size_extract]; omega
  · show (t.extract 12 16).size ≤ _; rw [ByteArray.size_extract]; omega
  · show (t.extract 16 20).size ≤ _; rw [ByteArray.size_extract]; omega
  · show (0 : Int) ≤ (num t 9 1 : Int); omega
  · show (num t 9 1 : Int) ≤ 65535; omega
  · show (0 : Int) ≤ (num t 4 2 : Int); omega
  · show (num t 4 2 : Int) ≤ 65535; omega
  · show (t.extract (hlen t) t.size).size + 20 ≤ _; rw [ByteArray.size_extract]; omega

theorem ip4get_off (t : ByteArray) : 0 ≤ (ip4get t).1.off ∧ (ip4get t).1.off ≤ 8191 := by
  by_cases h : (ip4get t).2.2 = 0
  · have := (ip4get_ok h).1; exact ⟨this.o0, this.o1⟩
  · have : ip4get t = (Hdr.zero, ⟨#[]⟩, ip4err t) := by
      unfold ip4get at h ⊢
      by_cases h0 : ip4err t = 0
      · rw [if_pos h0] at h; exact absurd rfl h
      · rw [if_neg h0]
    rw [this]; show (0 : Int) ≤ 0 ∧ (0 : Int) ≤ 8191; omega
end Go.Proofs.Ytlgjhacmhkbkdaa
