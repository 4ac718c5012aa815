/-
  Bytes as strings.
-/
import Derived.Test.YtpbadnnolheblaaBytes
import Derived.Laws.BytesArg
import Derived.WideShapes
namespace Go.Proofs.Ytpbadnnolheblaa
open Go.RowKit Go.WideShapes

def strB (l : List Nat) : ByteArray := strOfNums (l.map (fun (n : Nat) => (n : Int)))
theorem conv_bytes {P : Program} {src e dst : TypeId} (hs : P.underlying src = some (.slice e)) (he : P.underlying e = some (.int .u8)) (hd : P.underlying dst = some .string)
    {w : World} {ao : Option Addr} {l : List Nat} (cap : Nat) (h : isBytes w ao l) : (convert src dst (.slice ao l.length cap)).run P w = .ok (.string (strB l)) w := by
  rw [run_convert_bytes_string w src dst e _ _ _ hs he hd]
  cases ao with
  | none => obtain rfl := h.ofNone; rfl
  | some a =>
    have hl : (loadCells a l.length).run P w = .ok ((l.map (fun (n : Nat) => (n : Int))).map (Value.int .u8)).toArray w := by
      have := run_loadCells_list (P := P) w a (l.map byteV) (fun j v hj => h.news j v hj)
      rw [List.map_map, ← List.length_map (f := byteV)]; exact this
    rw [run_bytesToString w a l.length cap _ hl, foldl_push_bytes]
    simp [strB, strOfNums, ByteArray.empty, ByteArray.emptyWithCapacity]
    rfl
theorem strB_inj {a b : List Nat} (ha : ∀ x ∈ a, x < 256) (hb : ∀ x ∈ b, x < 256) (h : strB a = strB b) : a = b := by
  have h1 : (strB a).data.toList = (strB b).data.toList := by rw [h]
  simp only [strB, strOfNums_data, List.map_map] at h1
  have key : ∀ (a b : List Nat), (∀ x ∈ a, x < 256) → (∀ x ∈ b, x < 256) → a.map ((fun n : Int => UInt8.ofNat n.toNat) ∘ fun n : Nat => (n : Int)) = b.map ((fun n : Int => UInt8.ofNat n.toNat) ∘ fun n : Nat => (n : Int)) → a = b := by
    intro a
    induction a with
    | nil => intro b _ _ h; cases b with | nil => rfl | cons y b => simp at h
    | cons x a ih =>
      intro b ha hb h
      cases b with
      | nil => simp at h
      | cons y b =>
        simp only [List.map_cons, List.cons.injEq, Function.comp_apply, Int.toNat_natCast] at h
        have hx := ha x (by simp)
        have hy := hb y (by simp)
        have h2 : (UInt8.ofNat x).toNat = (UInt8.ofNat y).toNat := by rw [h.1]
        rw [UInt8.toNat_ofNat', UInt8.toNat_ofNat', Nat.mod_eq_of_lt hx, Nat.mod_eq_of_lt hy] at h2
        rw [h2, ih b (fun z hz => ha z (by simp [hz])) (fun z hz => hb z (by simp [hz])) h.2]
  exact key a b ha hb h1
theorem strB_eq {a b : List Nat} (ha : ∀ x ∈ a, x < 256) (hb : ∀ x ∈ b, x < 256) : ((strB a).toList == (strB b).toList) = decide (a = b) := by
  by_cases e : a = b
  · subst e; simp
  · have : ¬ (strB a).toList = (strB b).toList := fun h => e (strB_inj ha hb (by
      rw [ByteArray.toList_eq, ByteArray.toList_eq] at h
      exact bytes_inj h))
    simp [e, this]
end Go.Proofs.Ytpbadnnolheblaa
