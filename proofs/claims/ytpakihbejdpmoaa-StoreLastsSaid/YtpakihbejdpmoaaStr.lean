/-
  Bytes as a string.
-/
import Derived.Test.YtpakihbejdpmoaaBase
import Derived.Laws.BytesArg
namespace Go.Proofs.Ytpakihbejdpmoaa
open Go.RowKit
set_option linter.unusedVariables false

/-- Bytes as a string of the model. -/
def strB (bs : List UInt8) : ByteArray := ⟨bs.toArray⟩

theorem strOf_byv (bs : List UInt8) : strOfNums (bs.map fun b => (b.toNat : Int)) = strB bs := by
  unfold strOfNums strB
  congr 2
  rw [List.map_map]
  have : ((fun n : Int => UInt8.ofNat n.toNat) ∘ fun b : UInt8 => (b.toNat : Int)) = id := by
    funext b
    simp
  rw [this, List.map_id]

theorem run_str {P : Program} {w : World} {B : Nat} {A : Option Addr} {n c : Nat} {bs : List UInt8} {src dst e : TypeId} (hs : P.underlying src = some (.slice e)) (he : P.underlying e = some (.int .u8)) (hd : P.underlying dst = some .string)
    (hr : Bytes w B A bs) (hn : bs.length = n) : (convert src dst (.slice A n c)).run P w = .ok (.string (strB bs)) w := by
  subst hn
  cases A with
  | none =>
    have hb : bs = [] := by simpa using Row.eq_nil_of_none hr
    subst hb
    rw [run_convert_bytes_nil w src e hs he _ c dst hd]
    rfl
  | some ad =>
    have hl : (loadCells ad bs.length).run P w = .ok ((bs.map fun b => (b.toNat : Int)).map (Value.int .u8)).toArray w := by
      have := run_loadCells_list (P := P) w ad (bs.map byv) (fun j v hj => by
        obtain ⟨ad', h, _, hc⟩ := hr j v hj
        injection h with h
        subst h
        exact hc)
      rw [List.length_map] at this
      rw [this, List.map_map]
      rfl
    rw [run_convert_bytes_string w src dst e (some ad) bs.length c hs he hd, run_bytesToString w ad bs.length c _ hl, foldl_push_bytes]
    rw [← strOf_byv]
    unfold strOfNums
    congr 2
    simp [ByteArray.empty, ByteArray.emptyWithCapacity]
    rfl

theorem strB_inj {a b : List UInt8} (h : strB a = strB b) : a = b := by
  unfold strB at h
  injection h with h
  simpa using h
theorem strB_toList (a : List UInt8) : (strB a).toList = a := by
  rw [ByteArray.toList_eq]
  rfl
end Go.Proofs.Ytpakihbejdpmoaa
