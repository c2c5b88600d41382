/- What the walks over names and keys lean on: the library's trimming at this program, and the walk's tools. -/
import Derived.Test.YtlabpmmcmejpmaaDoorProg
import Derived.Test.YtlabpmmcmejpmaaDoorKeysPure
import Derived.Test.YtlabpmmcmejpmaaDoorBase
import Derived.WalkKit
import Derived.WalkSpells
import Derived.WalkLawsBesides
import Derived.Below
import Derived.Lib.Hide
import Derived.Test.YtlabpmmcmejpmaaDoorLaysTrim
