/-
  The words of the commands and their forms, as the document's rows.
-/
import Derived.Test.YtdcobmoeligdkaaDoorCmTokP
namespace Go.Proofs.YtdcobmoeligdkaaDoor
open Go.RowKit Go.Shelf

def nmA : Array Value := ((List.range 17).map fun i => (.string (uS (wordK (i + 1))) : Value)).toArray
def fmA : Array Value := ((List.range 17).map fun i => (.string (uS (formK (i + 1))) : Value)).toArray
theorem nmA_is : nmA = #[.string ⟨#[97, 100, 100]⟩, .string ⟨#[100, 101, 108, 101, 116, 101]⟩, .string ⟨#[103, 101, 116]⟩, .string ⟨#[99, 111, 117, 110, 116]⟩, .string ⟨#[108, 111, 99, 97, 116, 101]⟩, .string ⟨#[105, 100, 115]⟩, .string ⟨#[115, 121, 110, 99]⟩, .string ⟨#[102, 108, 117, 115, 104]⟩, .string ⟨#[115, 116, 101, 112]⟩, .string ⟨#[114, 101, 115, 116]⟩, .string ⟨#[115, 116, 97, 116, 115]⟩, .string ⟨#[102, 105, 110, 100]⟩, .string ⟨#[108, 105, 110, 101, 115]⟩, .string ⟨#[115, 116, 111, 112]⟩, .string ⟨#[99, 114, 97, 115, 104]⟩, .string ⟨#[99, 104, 101, 99, 107]⟩, .string ⟨#[102, 105, 108, 101, 115]⟩] := by rfl
theorem fmA_is : fmA = #[.string ⟨#[84]⟩, .string ⟨#[110]⟩, .string ⟨#[110]⟩, .string ⟨#[84]⟩, .string ⟨#[84, 110]⟩, .string ⟨#[]⟩, .string ⟨#[]⟩, .string ⟨#[]⟩, .string ⟨#[]⟩, .string ⟨#[110]⟩, .string ⟨#[]⟩, .string ⟨#[81]⟩, .string ⟨#[84, 110, 110, 110]⟩, .string ⟨#[110]⟩, .string ⟨#[110, 110]⟩, .string ⟨#[]⟩, .string ⟨#[]⟩] := by rfl
theorem nmA_at (i : Nat) (h : i < 17) : nmA[i]? = some (.string (uS (wordK (i + 1)))) := by
  unfold nmA
  rw [List.getElem?_toArray, List.getElem?_map, List.getElem?_range h]; rfl
theorem fmA_at (i : Nat) (h : i < 17) : fmA[i]? = some (.string (uS (formK (i + 1)))) := by
  unfold fmA
  rw [List.getElem?_toArray, List.getElem?_map, List.getElem?_range h]; rfl
attribute [irreducible] nmA fmA
end Go.Proofs.YtdcobmoeligdkaaDoor
