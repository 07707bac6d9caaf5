import Derived.Test.YtohkplmfihhhnaaProg
import Derived.Test.YtohkplmfihhhnaaEv11
namespace Go.Ev
open Go
noncomputable abbrev Pr : Program := Go.Proofs.Try.prog
theorem Pr_mixed : Pr.follows .mixedOrders = true := by kernel_rfl
abbrev F.corrallaw18_HomeAlone : Nat := 3
abbrev F.corrallaw18_HomePlays : Nat := 4
abbrev F.corrallaw18_first : Nat := 5
abbrev F.home_New : Nat := 6
abbrev F.home_Home_Take : Nat := 7
abbrev F.corralref_SameLine : Nat := 8
abbrev F.home_Home_Takes : Nat := 9
abbrev F.home_Home_Busy : Nat := 10
abbrev F.corralworld_Number : Nat := 11
abbrev F.corralref18_NewHome : Nat := 12
abbrev F.home_Home_Clone : Nat := 13
abbrev F.corralref18_Home_Takes : Nat := 14
abbrev F.home_Home_Owner : Nat := 15
abbrev F.corralref18_Home_Take : Nat := 16
abbrev F.corralref_SameMsgs : Nat := 17
abbrev F.corralref_SameInts : Nat := 18
abbrev F.home_Home_Sharers : Nat := 19
abbrev F.home_Home_Data : Nat := 20
abbrev F.home_Home_share : Nat := 21
abbrev F.home_Home_own : Nat := 22
abbrev F.home_Home_to : Nat := 23
abbrev F.home_Home_owned : Nat := 24
abbrev F.home_Home_shared : Nat := 25
abbrev F.home_Home_waits : Nat := 26
abbrev F.slices_Clone : Nat := 27
abbrev F.corralref_Among : Nat := 28
abbrev F.corralref18_Home_msg : Nat := 29
abbrev F.corralref18_without : Nat := 30
abbrev F.corralref18_Home_data : Nat := 31
abbrev F.corralref_Sorted : Nat := 32
abbrev F.corralref_Ints : Nat := 33
abbrev F.corralref18_Home_give : Nat := 34
abbrev F.corralref_SameMsg : Nat := 35
abbrev F.home_Home_hand : Nat := 36
abbrev F.slices_Contains : Nat := 37
abbrev F.slices_Index : Nat := 38

end Go.Ev
