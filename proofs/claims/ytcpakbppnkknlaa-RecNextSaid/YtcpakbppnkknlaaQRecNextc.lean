-- the last of the chain
import Derived.Test.YtcpakbppnkknlaaQRecNextc6
