/-
  DERIVED. GIVEN WITH THE SEED: THE CARDS: each row of YtfmdnoljlbfjbaaDoorRows.lean that lists a variable, with what it lists TIED to the program's text (the seventh form; the later family's looks); each row that meets fmt, with fmt's text TOLD by the authors' own Lean function (tested against real Go, not proved from fmt's source: count such statements apart). THE CARD IS WHAT COUNTS. Prove the row's statement (the work); the ties are given (YtfmdnoljlbfjbaaDoorTie.lean); close each card by the builder's one call (the guide's Derived/Test/ToyasCard.lean, 'card_holds'). Laid BY PROGRAM, IN A SANDBOX (cutbox-door.mjs). By AI agents, Wed Nov 11 2026. No macro, syntax, notation, axiom, sorry.
-/
import Derived.Test.YtfmdnoljlbfjbaaDoorRows
import GoSem.ClaimSeven
namespace Go.Proofs.YtfmdnoljlbfjbaaDoor
namespace Rows

/-- THE TIED CARD OF 'rubricklaw10.DictFinds'. -/
def dictFindsCard : Claim7 := { stood := { row := dictFindsRow, standIns := [], harness := (true, "68c0190d0cd6646d1de8471b3061a96c41ac4c70607fbf94c965f387a1ec8074"), looks := false }, kinds := [], alts := [], laidByText := true, laidKinds := [.data, .data], laidTests := true, laidLooks := .later }
def DictFindsCardSaid : Prop := Claim7.holds Tryd.pinned (.plain (OpenSpec.ofChange dictFindsSpec)) dictFindsCard

/-- THE TIED CARD OF 'rubricklaw10.DictLinks'. -/
def dictLinksCard : Claim7 := { stood := { row := dictLinksRow, standIns := [], harness := (true, "68c0190d0cd6646d1de8471b3061a96c41ac4c70607fbf94c965f387a1ec8074"), looks := false }, kinds := [], alts := [], laidByText := true, laidKinds := [.data, .data], laidTests := true, laidLooks := .later }
def DictLinksCardSaid : Prop := Claim7.holds Tryd.pinned (.plain (OpenSpec.ofChange dictLinksSpec)) dictLinksCard

/-- THE TIED CARD OF 'rubricklaw10.DictBack'. -/
def dictBackCard : Claim7 := { stood := { row := dictBackRow, standIns := [], harness := (true, "68c0190d0cd6646d1de8471b3061a96c41ac4c70607fbf94c965f387a1ec8074"), looks := false }, kinds := [], alts := [], laidByText := true, laidKinds := [.data, .data], laidTests := true, laidLooks := .later }
def DictBackCardSaid : Prop := Claim7.holds Tryd.pinned (.plain (OpenSpec.ofChange dictBackSpec)) dictBackCard

/-- THE TIED CARD OF 'rubricklaw10.DictHas'. -/
def dictHasCard : Claim7 := { stood := { row := dictHasRow, standIns := [], harness := (true, "68c0190d0cd6646d1de8471b3061a96c41ac4c70607fbf94c965f387a1ec8074"), looks := false }, kinds := [], alts := [], laidByText := true, laidKinds := [.data, .data], laidTests := true, laidLooks := .later }
def DictHasCardSaid : Prop := Claim7.holds Tryd.pinned (.plain (OpenSpec.ofChange dictHasSpec)) dictHasCard

/-- THE TIED CARD OF 'rubricklaw10.DictBetween'. -/
def dictBetweenCard : Claim7 := { stood := { row := dictBetweenRow, standIns := [], harness := (true, "68c0190d0cd6646d1de8471b3061a96c41ac4c70607fbf94c965f387a1ec8074"), looks := false }, kinds := [], alts := [], laidByText := true, laidKinds := [.data, .data], laidTests := true, laidLooks := .later }
def DictBetweenCardSaid : Prop := Claim7.holds Tryd.pinned (.plain (OpenSpec.ofChange dictBetweenSpec)) dictBetweenCard

/-- THE TIED CARD OF 'rubricklaw12.SegmBuilds'. -/
def segmBuildsCard : Claim7 := { stood := { row := segmBuildsRow, standIns := [], harness := (true, "68c0190d0cd6646d1de8471b3061a96c41ac4c70607fbf94c965f387a1ec8074"), looks := false }, kinds := [], alts := [], laidByText := true, laidKinds := [.data, .data], laidTests := true, laidLooks := .later }
def SegmBuildsCardSaid : Prop := Claim7.holds Tryd.pinned (.plain (OpenSpec.ofChange segmBuildsSpec)) segmBuildsCard

/-- THE TIED CARD OF 'rubricklaw12.SegmSigns'. -/
def segmSignsCard : Claim7 := { stood := { row := segmSignsRow, standIns := [], harness := (true, "68c0190d0cd6646d1de8471b3061a96c41ac4c70607fbf94c965f387a1ec8074"), looks := false }, kinds := [], alts := [], laidByText := true, laidKinds := [.data, .data], laidTests := true, laidLooks := .later }
def SegmSignsCardSaid : Prop := Claim7.holds Tryd.pinned (.plain (OpenSpec.ofChange segmSignsSpec)) segmSignsCard

/-- THE TIED CARD OF 'rubricklaw12.SegmRows'. -/
def segmRowsCard : Claim7 := { stood := { row := segmRowsRow, standIns := [], harness := (true, "68c0190d0cd6646d1de8471b3061a96c41ac4c70607fbf94c965f387a1ec8074"), looks := false }, kinds := [], alts := [], laidByText := true, laidKinds := [.data, .data], laidTests := true, laidLooks := .later }
def SegmRowsCardSaid : Prop := Claim7.holds Tryd.pinned (.plain (OpenSpec.ofChange segmRowsSpec)) segmRowsCard

/-- THE TIED CARD OF 'rubricklaw12.SegmParts'. -/
def segmPartsCard : Claim7 := { stood := { row := segmPartsRow, standIns := [], harness := (true, "68c0190d0cd6646d1de8471b3061a96c41ac4c70607fbf94c965f387a1ec8074"), looks := false }, kinds := [], alts := [], laidByText := true, laidKinds := [.data, .data], laidTests := true, laidLooks := .later }
def SegmPartsCardSaid : Prop := Claim7.holds Tryd.pinned (.plain (OpenSpec.ofChange segmPartsSpec)) segmPartsCard

/-- THE TIED CARD OF 'rubricklaw10.DictSeals'. -/
def dictSealsCard : Claim7 := { stood := { row := dictSealsRow, standIns := [], harness := (true, "68c0190d0cd6646d1de8471b3061a96c41ac4c70607fbf94c965f387a1ec8074"), looks := false }, kinds := [], alts := [], laidByText := true, laidKinds := [.data, .data], laidTests := true, laidLooks := .later }
def DictSealsCardSaid : Prop := Claim7.holds Tryd.pinned (.plain (OpenSpec.ofChange dictSealsSpec)) dictSealsCard

/-- THE SECOND FORM's CARD OF 'rubricklaw10.DictFinds'. -/
def dictFindsUptoCard : Claim7 := { stood := { row := dictFindsUptoRow, standIns := [], harness := (true, "68c0190d0cd6646d1de8471b3061a96c41ac4c70607fbf94c965f387a1ec8074"), looks := false }, kinds := [], alts := [], laidByText := true, laidKinds := [.data, .data], laidTests := true, laidLooks := .later }
def DictFindsUptoCardSaid : Prop := Claim7.holds Tryd.pinned (.plain (OpenSpec.upto dictFindsSpec)) dictFindsUptoCard

/-- THE SECOND FORM's CARD OF 'rubricklaw10.DictLinks'. -/
def dictLinksUptoCard : Claim7 := { stood := { row := dictLinksUptoRow, standIns := [], harness := (true, "68c0190d0cd6646d1de8471b3061a96c41ac4c70607fbf94c965f387a1ec8074"), looks := false }, kinds := [], alts := [], laidByText := true, laidKinds := [.data, .data], laidTests := true, laidLooks := .later }
def DictLinksUptoCardSaid : Prop := Claim7.holds Tryd.pinned (.plain (OpenSpec.upto dictLinksSpec)) dictLinksUptoCard

/-- THE SECOND FORM's CARD OF 'rubricklaw10.DictBack'. -/
def dictBackUptoCard : Claim7 := { stood := { row := dictBackUptoRow, standIns := [], harness := (true, "68c0190d0cd6646d1de8471b3061a96c41ac4c70607fbf94c965f387a1ec8074"), looks := false }, kinds := [], alts := [], laidByText := true, laidKinds := [.data, .data], laidTests := true, laidLooks := .later }
def DictBackUptoCardSaid : Prop := Claim7.holds Tryd.pinned (.plain (OpenSpec.upto dictBackSpec)) dictBackUptoCard

/-- THE SECOND FORM's CARD OF 'rubricklaw10.DictHas'. -/
def dictHasUptoCard : Claim7 := { stood := { row := dictHasUptoRow, standIns := [], harness := (true, "68c0190d0cd6646d1de8471b3061a96c41ac4c70607fbf94c965f387a1ec8074"), looks := false }, kinds := [], alts := [], laidByText := true, laidKinds := [.data, .data], laidTests := true, laidLooks := .later }
def DictHasUptoCardSaid : Prop := Claim7.holds Tryd.pinned (.plain (OpenSpec.upto dictHasSpec)) dictHasUptoCard

/-- THE SECOND FORM's CARD OF 'rubricklaw10.DictBetween'. -/
def dictBetweenUptoCard : Claim7 := { stood := { row := dictBetweenUptoRow, standIns := [], harness := (true, "68c0190d0cd6646d1de8471b3061a96c41ac4c70607fbf94c965f387a1ec8074"), looks := false }, kinds := [], alts := [], laidByText := true, laidKinds := [.data, .data], laidTests := true, laidLooks := .later }
def DictBetweenUptoCardSaid : Prop := Claim7.holds Tryd.pinned (.plain (OpenSpec.upto dictBetweenSpec)) dictBetweenUptoCard

/-- THE SECOND FORM's CARD OF 'rubricklaw12.SegmBuilds'. -/
def segmBuildsUptoCard : Claim7 := { stood := { row := segmBuildsUptoRow, standIns := [], harness := (true, "68c0190d0cd6646d1de8471b3061a96c41ac4c70607fbf94c965f387a1ec8074"), looks := false }, kinds := [], alts := [], laidByText := true, laidKinds := [.data, .data], laidTests := true, laidLooks := .later }
def SegmBuildsUptoCardSaid : Prop := Claim7.holds Tryd.pinned (.plain (OpenSpec.upto segmBuildsSpec)) segmBuildsUptoCard

/-- THE SECOND FORM's CARD OF 'rubricklaw12.SegmSigns'. -/
def segmSignsUptoCard : Claim7 := { stood := { row := segmSignsUptoRow, standIns := [], harness := (true, "68c0190d0cd6646d1de8471b3061a96c41ac4c70607fbf94c965f387a1ec8074"), looks := false }, kinds := [], alts := [], laidByText := true, laidKinds := [.data, .data], laidTests := true, laidLooks := .later }
def SegmSignsUptoCardSaid : Prop := Claim7.holds Tryd.pinned (.plain (OpenSpec.upto segmSignsSpec)) segmSignsUptoCard

/-- THE SECOND FORM's CARD OF 'rubricklaw12.SegmRows'. -/
def segmRowsUptoCard : Claim7 := { stood := { row := segmRowsUptoRow, standIns := [], harness := (true, "68c0190d0cd6646d1de8471b3061a96c41ac4c70607fbf94c965f387a1ec8074"), looks := false }, kinds := [], alts := [], laidByText := true, laidKinds := [.data, .data], laidTests := true, laidLooks := .later }
def SegmRowsUptoCardSaid : Prop := Claim7.holds Tryd.pinned (.plain (OpenSpec.upto segmRowsSpec)) segmRowsUptoCard

/-- THE SECOND FORM's CARD OF 'rubricklaw12.SegmParts'. -/
def segmPartsUptoCard : Claim7 := { stood := { row := segmPartsUptoRow, standIns := [], harness := (true, "68c0190d0cd6646d1de8471b3061a96c41ac4c70607fbf94c965f387a1ec8074"), looks := false }, kinds := [], alts := [], laidByText := true, laidKinds := [.data, .data], laidTests := true, laidLooks := .later }
def SegmPartsUptoCardSaid : Prop := Claim7.holds Tryd.pinned (.plain (OpenSpec.upto segmPartsSpec)) segmPartsUptoCard

/-- THE SECOND FORM's CARD OF 'rubricklaw10.DictSeals'. -/
def dictSealsUptoCard : Claim7 := { stood := { row := dictSealsUptoRow, standIns := [], harness := (true, "68c0190d0cd6646d1de8471b3061a96c41ac4c70607fbf94c965f387a1ec8074"), looks := false }, kinds := [], alts := [], laidByText := true, laidKinds := [.data, .data], laidTests := true, laidLooks := .later }
def DictSealsUptoCardSaid : Prop := Claim7.holds Tryd.pinned (.plain (OpenSpec.upto dictSealsSpec)) dictSealsUptoCard
end Rows
end Go.Proofs.YtfmdnoljlbfjbaaDoor
